/- Texts put together: S06b, S06k, S06l. -/
import Derived.Test.YtphggannefpleaaDoorWm7
section
/-
  CHAPTER 06: a ring with one tree, as memory; contracts.
-/
namespace Go.Proofs.YtphggannefpleaaDoor.WL
open Go
set_option maxHeartbeats 8000000
attribute [local irreducible] comp hb sha leafD pairD secD shutD wholeD pubD ofD leavesD

def opE (K : List (Int × Nat)) : List AV := K.map fun p => entA (.v (.int .i64 p.1)) (.v (.bool true)) ((p.2 : Nat) : Int)
@[simp] theorem opE_closed : ∀ (K : List (Int × Nat)), closeds (opE K) = true
  | [] => rfl
  | p :: K => by
    have := opE_closed K
    simp only [opE, List.map_cons, closeds, closed_entA] at this ⊢
    simp [this, closed]
@[simp] theorem opE_length (K : List (Int × Nat)) : (opE K).length = K.length := by simp [opE]
@[simp] theorem opE_all : ∀ (K : List (Int × Nat)), allEnt 1 1 (opE K) = true
  | [] => rfl
  | p :: K => by
    have := opE_all K
    simp only [opE, List.map_cons, allEnt_cons] at this ⊢
    simp [this]
theorem opE_nil : opE [] = [] := rfl
theorem opE_get (K : List (Int × Nat)) (i : Nat) : (opE K)[i]? = (K[i]?).map fun p => entA (.v (.int .i64 p.1)) (.v (.bool true)) ((p.2 : Nat) : Int) := by simp [opE]
theorem opE_snoc (K : List (Int × Nat)) (n : Int) (c : Nat) : opE K ++ [entA (.v (.int .i64 n)) (.v (.bool true)) ((c : Nat) : Int)] = opE (K ++ [(n, c)]) := by simp [opE]
theorem opE_erase (K : List (Int × Nat)) (i : Nat) : (opE K).eraseIdx i = opE (K.eraseIdx i) := by simp [opE, ChangeMaps.map_eraseIdx]
theorem opE_find (n : Int) : ∀ (K : List (Int × Nat)), findA (.int .i64) (.v (.int .i64 n)) (opE K) = some (K.findIdx? fun p => decide (p.1 = n))
  | [] => rfl
  | p :: K => by
    have hc : cmpA (.int .i64) (.v (.int .i64 n)) (.v (.int .i64 p.1)) = some (decide (p.1 = n)) := by
      simp only [cmpA, and_self, if_true, Option.some.injEq]
      rw [Bool.eq_iff_iff]
      simp only [beq_iff_eq, decide_eq_true_eq]
      exact eq_comm
    have ih := opE_find n K
    simp only [opE] at ih
    simp only [opE, List.map_cons, findA_cons, entK_entA, hc, Option.bind_some, ih, Option.map_some, List.findIdx?_cons]
    cases decide (p.1 = n) <;> simp

def keyA (root : Dg) (h : Nat) : AV := .node [dv root, .v (.int .i64 (h : Nat))]
@[simp] theorem keyA_closed (root : Dg) (h : Nat) : closed (keyA root h) = true := by simp [keyA]
theorem keyA_cmp (root : Dg) (h : Nat) : cmpA (.st [.ints .u8 32, .int .i64]) (.node [dv root, .v (.int .i64 (h : Nat))]) (.node [dv root, .v (.int .i64 (h : Nat))]) = some true := by
  rw [cmp_key]; simp
/-- A tree in a ring: its seed, height, leaves, root; the first number that is free; the open ones with their stamps; the stamp to come. -/
structure One where
  seed : Dg
  h : Nat
  ls : List Dg
  root : Dg
  nx : Nat
  K : List (Int × Nat)
  ck : Nat
def rg0 (g ck : Nat) : List (Nat × Loc) := [(1000, .var g (.node [.oref 1001 g true])), (1001, .ob g (.map true 33 false 1) (.node [.node [], .v (.int .i64 (ck : Nat))]))]
def rgM (g e : Nat) (t : One) : List (Nat × Loc) :=
  [(1000, .var g (.node [.oref 1001 g true])), (1001, .ob g (.map true 33 false 1) (.node [.node [entA (.node [dv t.root, .v (.int .i64 (t.h : Nat))]) (.ptr 1002 e 0) 0], .v (.int .i64 1)])),
   (1002, .var e (.node [.iptr (trA t.seed t.h t.ls), .v (.int .i64 (t.nx : Nat)), .oref 1003 e true])), (1003, .ob e (.map false 1 false 1) (.node [.node (opE t.K), .v (.int .i64 (t.ck : Nat))]))]

theorem rnew_meets : Meets Tryd.prog Gt fn_ring_New [] [] false (.ptr 1000 1 0) (rg0 1 0) := by
  refine meets_of_go mix k_ring_New ⟨by simp [rg0], by simp [rg0], by simp [rg0]⟩ ?_
  simp
  refine post_end (.inr rfl) ?_
  simp [rg0]

theorem entry_meets (t : One) : Meets Tryd.prog Gt fn_ring_Ring_entry [.ptr 1000 0 0, keyA t.root t.h] (rgM 0 0 t) false (.tup [.ptr 1002 0 0, .v (.int .i64 0)]) (rgM 0 0 t) := by
  refine meets_of_go mix k_ring_Ring_entry ⟨by simp [rgM], by simp [rgM], by simp [rgM]⟩ ?_
  have hk := keyA_cmp t.root t.h
  simp [rgM, keyA, hk]
  refine post_end (.inr rfl) ?_
  simp

/-- A new tree. -/
def oneN (seed : Dg) (h : Nat) : One := ⟨seed, h, leavesD seed 32 (2 ^ h), rootD (leavesD seed 32 (2 ^ h)), 0, [], 0⟩
theorem radd_new (seed : Dg) (h : Nat) (hh : h ≤ 6) : Meets Tryd.prog Gt fn_ring_Ring_Add [.ptr 1000 0 0, dv seed, .v (.int .i64 (h : Nat))] (rg0 0 0) false (.tup [keyA (oneN seed h).root h, .v (.int .i64 0)]) (rgM 0 1 (oneN seed h)) := by
  refine meets_of_go mix k_ring_Ring_Add ⟨by simp [rgM], by simp [keyA], by simp [rgM]⟩ ?_
  have m1 := knewI_meets seed h hh
  unfold oneN
  have hl := leavesD_length seed 32 (2 ^ h)
  have h64 : 2 ^ h ≤ 64 := Nat.le_trans (Nat.pow_le_pow_right (by omega) hh) (by decide)
  generalize leavesD seed 32 (2 ^ h) = ls at *
  have m2 := kkeyI_meets seed h ls (by omega)
  generalize rootD ls = root at *
  have hk := keyA_cmp root h
  have htc := trA_closed seed h ls
  simp [rg0, keyA]
  refine call_intro m1 ?_ ?_
  · simp
  simp
  refine call_intro m2 ?_ ?_
  · simp [htc]
  simp [hk]
  refine post_end (.inr rfl) ?_
  simp [rgM, opE_nil, htc]
/-- What Take makes of a tree. -/
def takeT (t : One) : One := { t with nx := t.nx + 1, K := t.K ++ [((t.nx : Int), t.ck)], ck := t.ck + 1 }
theorem take_meets (t : One) (hh : t.h ≤ 6) (hn : t.nx < 2 ^ t.h) (hK : ∀ p ∈ t.K, p.1 ≠ (t.nx : Int)) (hc : t.ck ≤ 1000000) :
    Meets Tryd.prog Gt fn_ring_Ring_Take [.ptr 1000 0 0, keyA t.root t.h] (rgM 0 0 t) false (.tup [.v (.int .i64 (t.nx : Nat)), .v (.int .i64 0)]) (rgM 0 0 (takeT t)) := by
  refine meets_of_go mix k_ring_Ring_Take ⟨by simp [rgM], by simp, by simp [rgM]⟩ ?_
  have m1 := entry_meets t
  have hmin : min t.h 64 = t.h := by omega
  obtain ⟨q, hq⟩ : ∃ q : Nat, q = 2 ^ t.h := ⟨_, rfl⟩
  have hq64 : q ≤ 64 := by rw [hq]; exact Nat.le_trans (Nat.pow_le_pow_right (by omega) hh) (by decide)
  have hqi : ((2 : Int) ^ t.h) = (q : Int) := by rw [hq]; simp
  have w1 : IntKind.i64.wrap (q : Int) = (q : Int) := w64_id (by omega)
  rw [← hq] at hn
  have w2 : IntKind.i64.wrap ((t.nx : Int) + 1) = ((t.nx + 1 : Nat) : Int) := w64_succ (by omega)
  have w3 : IntKind.i64.wrap ((t.ck : Int) + 1) = ((t.ck + 1 : Nat) : Int) := w64_succ (by omega)
  have hnq : ¬ (q : Int) ≤ (t.nx : Nat) := by omega
  have hnq2 : ¬ q ≤ t.nx := by omega
  have hfi : t.K.findIdx? (fun p => decide (p.1 = (t.nx : Int))) = none := by
    rw [List.findIdx?_eq_none_iff]
    intro p hp
    simpa using hK p hp
  have hfa := opE_find (t.nx : Int) t.K
  rw [hfi] at hfa
  have hcs : cmpA (.int .i64) (.v (.int .i64 (t.nx : Int))) (.v (.int .i64 (t.nx : Int))) = some true := by simp [cmpA]
  have hsn := opE_snoc t.K (t.nx : Int) t.ck
  have htc := trA_closed t.seed t.h t.ls
  simp [keyA, rgM]
  refine call_intro m1 ?_ ?_
  · simp [rgM, keyA, htc]
  simp [rgM, keyA, htc, hmin, hqi, w1, hnq, hnq2, w2, hcs, hfa]
  refine post_end (.inr rfl) ?_
  simp [takeT, rgM, hsn, htc]
theorem take_spent (t : One) (hh : t.h ≤ 6) (hn : 2 ^ t.h ≤ t.nx) :
    Meets Tryd.prog Gt fn_ring_Ring_Take [.ptr 1000 0 0, keyA t.root t.h] (rgM 0 0 t) false (.tup [.v (.int .i64 0), .v (.int .i64 6)]) (rgM 0 0 t) := by
  refine meets_of_go mix k_ring_Ring_Take ⟨by simp [rgM], by simp, by simp [rgM]⟩ ?_
  have m1 := entry_meets t
  have hmin : min t.h 64 = t.h := by omega
  obtain ⟨q, hq⟩ : ∃ q : Nat, q = 2 ^ t.h := ⟨_, rfl⟩
  have hq64 : q ≤ 64 := by rw [hq]; exact Nat.le_trans (Nat.pow_le_pow_right (by omega) hh) (by decide)
  have hqi : ((2 : Int) ^ t.h) = (q : Int) := by rw [hq]; simp
  have w1 : IntKind.i64.wrap (q : Int) = (q : Int) := w64_id (by omega)
  rw [← hq] at hn
  have hnq : (q : Int) ≤ (t.nx : Nat) := by omega
  have htc := trA_closed t.seed t.h t.ls
  simp [keyA, rgM]
  refine call_intro m1 ?_ ?_
  · simp [rgM, keyA, htc]
  simp [rgM, keyA, htc, hmin, hqi, w1, hnq, hn]
  refine post_end (.inr rfl) ?_
  simp [rgM, htc]
def sig0 : AV := .node [.v (.int .i64 0), .node [.v (.slice none 0 0), .v (.slice none 0 0)], .v (.slice none 0 0)]
/-- What Sign makes of a tree. -/
def signT (t : One) (n : Nat) : One := { t with K := t.K.filter fun p => !decide (p.1 = (n : Int)) }
theorem ringSign_meets (t : One) (n : Nat) (d : Dg) (hn : n < t.ls.length) (hl : t.ls.length ≤ 1000000) (hK : ∃ p ∈ t.K, p.1 = (n : Int)) (hd : (t.K.map (·.1)).Nodup) :
    Meets Tryd.prog Gt fn_ring_Ring_Sign [.ptr 1000 0 0, keyA t.root t.h, .v (.int .i64 (n : Nat)), dv d] (rgM 0 0 t) false (.tup [(signK t.seed t.ls n d 32).avS, .v (.int .i64 0)]) (rgM 0 0 (signT t n)) := by
  refine meets_of_go mix k_ring_Ring_Sign ⟨by simp [rgM], by simp [Sig.avS], by simp [rgM]⟩ ?_
  have m1 := entry_meets t
  have m2 := ksignV_meets t.seed t.h t.ls n d hn hl
  generalize signK t.seed t.ls n d 32 = sg at *
  obtain ⟨i, hi⟩ : ∃ i, t.K.findIdx? (fun p => decide (p.1 = (n : Int))) = some i := by
    rw [← Option.isSome_iff_exists, List.findIdx?_isSome]
    obtain ⟨p, hp, e⟩ := hK
    exact List.any_eq_true.2 ⟨p, hp, by simpa using e⟩
  obtain ⟨hlt, hpi, _⟩ := List.findIdx?_eq_some_iff_getElem.1 hi
  have hpi' : (t.K[i]).1 = (n : Int) := by simpa using hpi
  have hfa := opE_find (n : Int) t.K
  rw [hi] at hfa
  have hge := opE_get t.K i
  rw [List.getElem?_eq_getElem hlt, Option.map_some] at hge
  have her := opE_erase t.K i
  rw [erase_filter hd (List.getElem?_eq_getElem hlt), hpi'] at her
  have hcs : cmpA (.int .i64) (.v (.int .i64 (n : Int))) (.v (.int .i64 (n : Int))) = some true := by simp [cmpA]
  have htc := trA_closed t.seed t.h t.ls
  simp [keyA, rgM]
  refine call_intro m1 ?_ ?_
  · simp [rgM, keyA, htc]
  simp [rgM, keyA, htc, hcs, hfa, hge, her]
  refine call_intro m2 ?_ ?_
  · simp [htc]
  simp [Sig.avS]
  refine post_end (.inr rfl) ?_
  simp [signT, rgM, htc, Sig.avS]
theorem ringSign_shut (t : One) (n : Int) (d : Dg) (hK : ∀ p ∈ t.K, p.1 ≠ n) :
    Meets Tryd.prog Gt fn_ring_Ring_Sign [.ptr 1000 0 0, keyA t.root t.h, .v (.int .i64 n), dv d] (rgM 0 0 t) false (.tup [sig0, .v (.int .i64 9)]) (rgM 0 0 t) := by
  refine meets_of_go mix k_ring_Ring_Sign ⟨by simp [rgM], by simp [sig0], by simp [rgM]⟩ ?_
  have m1 := entry_meets t
  have hfi : t.K.findIdx? (fun p => decide (p.1 = n)) = none := by
    rw [List.findIdx?_eq_none_iff]
    intro p hp
    simpa using hK p hp
  have hfa := opE_find n t.K
  rw [hfi] at hfa
  have hcs : cmpA (.int .i64) (.v (.int .i64 n)) (.v (.int .i64 n)) = some true := by simp [cmpA]
  have htc := trA_closed t.seed t.h t.ls
  simp [keyA, rgM]
  refine call_intro m1 ?_ ?_
  · simp [rgM, keyA, htc]
  simp [rgM, keyA, htc, hcs, hfa]
  refine post_end (.inr rfl) ?_
  simp [rgM, htc, sig0]
end Go.Proofs.YtphggannefpleaaDoor.WL

end
section
/-
  CHAPTER 06: a ring with any number of trees, as memory.
-/
namespace Go.Proofs.YtphggannefpleaaDoor.WL
open Go
set_option maxHeartbeats 4000000
attribute [local irreducible] comp hb sha leafD pairD secD shutD wholeD pubD ofD leavesD

structure Tr where
  id : Nat
  t : One
/-- A great number that nobody unfolds. -/
noncomputable def big : Nat := Classical.choose (⟨2000000000, Nat.le_refl _⟩ : ∃ n : Nat, 2000000000 ≤ n)
theorem big_le : 2000000000 ≤ big := Classical.choose_spec (⟨2000000000, Nat.le_refl _⟩ : ∃ n : Nat, 2000000000 ≤ n)
noncomputable def nE (i : Nat) : Nat := 2 * i + big
noncomputable def nO (i : Nat) : Nat := 2 * i + 1 + big
noncomputable def trE (c : Nat) (x : Tr) : AV := entA (.node [dv x.t.root, .v (.int .i64 (x.t.h : Nat))]) (.ptr (nE x.id) c 0) ((x.id : Nat) : Int)
noncomputable def locE (c : Nat) (i : Nat) (t : One) : Loc := .var c (.node [.iptr (trA t.seed t.h t.ls), .v (.int .i64 (t.nx : Nat)), .oref (nO i) c true])
def locO (c : Nat) (t : One) : Loc := .ob c (.map false 1 false 1) (.node [.node (opE t.K), .v (.int .i64 (t.ck : Nat))])
noncomputable def trL (c : Nat) (x : Tr) : List (Nat × Loc) := [(nE x.id, locE c x.id x.t), (nO x.id, locO c x.t)]
noncomputable def flatT (c : Nat) (ts : List Tr) : List (Nat × Loc) := ts.flatMap (trL c)
noncomputable def rgL (c : Nat) (ts : List Tr) (lk : Nat) : List (Nat × Loc) :=
  (1000, .var c (.node [.oref 1001 c true])) :: (1001, .ob c (.map true 33 false 1) (.node [.node (ts.map (trE c)), .v (.int .i64 (lk : Nat))])) :: flatT c ts
def Tr.key (x : Tr) : Dg × Nat := (x.t.root, x.t.h)
structure Fine (ts : List Tr) : Prop where
  ids : (ts.map (·.id)).Nodup
  keys : (ts.map Tr.key).Nodup

theorem nE_inj {i j : Nat} : nE i = nE j ↔ i = j := by have := big_le; unfold nE; omega
theorem nO_inj {i j : Nat} : nO i = nO j ↔ i = j := by have := big_le; unfold nO; omega
theorem nE_nO (i j : Nat) : ¬ nE i = nO j := by unfold nE nO; omega
theorem look_flat (c : Nat) : ∀ (ts : List Tr) (x : Tr), (ts.map (·.id)).Nodup → x ∈ ts → look (flatT c ts) (nE x.id) = some (locE c x.id x.t) ∧ look (flatT c ts) (nO x.id) = some (locO c x.t)
  | [], _, _, h => by cases h
  | y :: ts, x, hn, h => by
    simp only [List.map_cons, List.nodup_cons] at hn
    have e1 : look (flatT c (y :: ts)) (nE x.id) = look ((nE y.id, locE c y.id y.t) :: (nO y.id, locO c y.t) :: flatT c ts) (nE x.id) := rfl
    have e2 : look (flatT c (y :: ts)) (nO x.id) = look ((nE y.id, locE c y.id y.t) :: (nO y.id, locO c y.t) :: flatT c ts) (nO x.id) := rfl
    rw [e1, e2]
    simp only [look]
    rcases List.mem_cons.1 h with h | h
    · subst h
      rw [if_pos rfl, if_neg (nE_nO _ _), if_pos rfl]
      exact ⟨rfl, rfl⟩
    · have hne : y.id ≠ x.id := fun e => hn.1 (List.mem_map.2 ⟨x, h, e.symm⟩)
      rw [if_neg (fun e => hne (nE_inj.1 e)), if_neg (fun e => nE_nO _ _ e.symm), if_neg (nE_nO _ _), if_neg (fun e => hne (nO_inj.1 e))]
      exact look_flat c ts x hn.2 h
theorem flat_mem {c : Nat} {ts : List Tr} {e : Nat × Loc} : e ∈ flatT c ts ↔ ∃ x ∈ ts, e = (nE x.id, locE c x.id x.t) ∨ e = (nO x.id, locO c x.t) := by
  unfold flatT
  rw [List.mem_flatMap]
  constructor
  · rintro ⟨x, hx, h⟩
    simp only [trL, List.mem_cons, List.not_mem_nil, or_false] at h
    exact ⟨x, hx, h⟩
  · rintro ⟨x, hx, h⟩
    exact ⟨x, hx, by simpa only [trL, List.mem_cons, List.not_mem_nil, or_false] using h⟩
theorem flat_names {c : Nat} {ts : List Tr} {k : Nat} : k ∈ names (flatT c ts) ↔ ∃ x ∈ ts, k = nE x.id ∨ k = nO x.id := by
  constructor
  · intro h
    obtain ⟨e, he, rfl⟩ := List.mem_map.1 h
    obtain ⟨x, hx, rfl | rfl⟩ := flat_mem.1 he
    · exact ⟨x, hx, .inl rfl⟩
    · exact ⟨x, hx, .inr rfl⟩
  · rintro ⟨x, hx, rfl | rfl⟩
    · exact List.mem_map.2 ⟨_, flat_mem.2 ⟨x, hx, .inl rfl⟩, rfl⟩
    · exact List.mem_map.2 ⟨_, flat_mem.2 ⟨x, hx, .inr rfl⟩, rfl⟩
theorem flat_nodup (c : Nat) : ∀ (ts : List Tr), (ts.map (·.id)).Nodup → (names (flatT c ts)).Nodup
  | [], _ => List.nodup_nil
  | y :: ts, hn => by
    simp only [List.map_cons, List.nodup_cons] at hn
    show (nE y.id :: nO y.id :: names (flatT c ts)).Nodup
    rw [List.nodup_cons, List.nodup_cons]
    refine ⟨?_, ?_, flat_nodup c ts hn.2⟩
    · rw [List.mem_cons]
      rintro (h | h)
      · exact nE_nO _ _ h
      · obtain ⟨x, hx, e | e⟩ := flat_names.1 h
        · exact hn.1 (List.mem_map.2 ⟨x, hx, (nE_inj.1 e).symm⟩)
        · exact nE_nO _ _ e
    · intro h
      obtain ⟨x, hx, e | e⟩ := flat_names.1 h
      · exact nE_nO _ _ e.symm
      · exact hn.1 (List.mem_map.2 ⟨x, hx, (nO_inj.1 e).symm⟩)
theorem rg_names {c : Nat} {ts : List Tr} {lk k : Nat} : k ∈ names (rgL c ts lk) ↔ k = 1000 ∨ k = 1001 ∨ ∃ x ∈ ts, k = nE x.id ∨ k = nO x.id := by
  show k ∈ 1000 :: 1001 :: names (flatT c ts) ↔ _
  rw [List.mem_cons, List.mem_cons, flat_names]
theorem rg_look {c : Nat} {ts : List Tr} {lk : Nat} (hf : Fine ts) {x : Tr} (hx : x ∈ ts) : look (rgL c ts lk) (nE x.id) = some (locE c x.id x.t) ∧ look (rgL c ts lk) (nO x.id) = some (locO c x.t) := by
  have h := look_flat c ts x hf.ids hx
  have e1 : ¬ 1000 = nE x.id := by have := big_le; unfold nE; omega
  have e2 : ¬ 1001 = nE x.id := by have := big_le; unfold nE; omega
  have e3 : ¬ 1000 = nO x.id := by have := big_le; unfold nO; omega
  have e4 : ¬ 1001 = nO x.id := by have := big_le; unfold nO; omega
  simp only [rgL, look, e1, e2, e3, e4, if_false]
  exact h
theorem rg_re (c c' : Nat) (ts : List Tr) (lk : Nat) : reM c (rgL c' ts lk) = rgL c ts lk := by
  have h1 : reL c (ts.map (trE c')) = ts.map (trE c) := by
    induction ts with
    | nil => rfl
    | cons x ts ih => simp only [List.map_cons, reL, ih]; rfl
  have h2 : reM c (flatT c' ts) = flatT c ts := by
    clear h1
    induction ts with
    | nil => rfl
    | cons x ts ih =>
      show (nE x.id, reLoc c (locE c' x.id x.t)) :: (nO x.id, reLoc c (locO c' x.t)) :: reM c (flatT c' ts) = _
      rw [ih]
      have e : ∀ (K : List (Int × Nat)), reL c (opE K) = opE K := by
        intro K
        induction K with
        | nil => rfl
        | cons p K ih => simp only [opE, List.map_cons, reL] at ih ⊢; rw [ih]; rfl
      simp only [reLoc, locE, locO, reA, reL, e]
      rfl
  show (1000, reLoc c _) :: (1001, reLoc c _) :: reM c (flatT c' ts) = _
  rw [h2]
  simp only [reLoc, reA, reL, h1]
  rfl
theorem okL_map {α : Type} {M : List (Nat × Loc)} {f : α → AV} : ∀ {l : List α}, (∀ a ∈ l, okA M (f a) = true) → okL M (l.map f) = true
  | [], _ => rfl
  | a :: l, h => by
    simp only [List.map_cons, okL, Bool.and_eq_true]
    exact ⟨h a List.mem_cons_self, okL_map fun b hb => h b (List.mem_cons_of_mem _ hb)⟩
theorem rg_gens (ts : List Tr) (lk : Nat) : gens0 (rgL 0 ts lk) := fun e he => by
  rcases List.mem_cons.1 he with rfl | he
  · rfl
  · rcases List.mem_cons.1 he with rfl | he
    · rfl
    · obtain ⟨x, hx, rfl | rfl⟩ := flat_mem.1 he <;> rfl
theorem rg_nodup {ts : List Tr} (hf : Fine ts) (c lk : Nat) : (names (rgL c ts lk)).Nodup := by
  show (1000 :: 1001 :: names (flatT c ts)).Nodup
  rw [List.nodup_cons, List.nodup_cons]
  refine ⟨?_, ?_, flat_nodup c ts hf.ids⟩
  · rw [List.mem_cons]
    rintro (h | h)
    · omega
    · obtain ⟨x, _, e | e⟩ := flat_names.1 h
      · have := big_le; unfold nE at e; omega
      · have := big_le; unfold nO at e; omega
  · intro h
    obtain ⟨x, _, e | e⟩ := flat_names.1 h
    · have := big_le; unfold nE at e; omega
    · have := big_le; unfold nO at e; omega
theorem ok_ptr {M : List (Nat × Loc)} {l off : Nat} {x : AV} (h : look M l = some (.var 0 x)) : okA M (.ptr l 0 off) = true := by
  simp only [okA, goodA, h, beq_self_eq_true]
theorem ok_oref {M : List (Nat × Loc)} {l : Nat} {mp : Bool} {q : OK} {x : AV} (h : look M l = some (.ob 0 q x)) : okA M (.oref l 0 mp) = true := by
  simp only [okA, goodA, h, beq_self_eq_true]
theorem ok_closed {M : List (Nat × Loc)} {a : AV} (h : closed a = true) (hn : a.isAgg = false) : okA M a = true := by
  have := goodA_closed (M := M) h
  cases a <;> first | (simp only [okA]; exact this) | (simp [closed] at h; done) | (simp [AV.isAgg] at hn; done)
theorem rg_look0 (c : Nat) (ts : List Tr) (lk : Nat) : look (rgL c ts lk) 1001 = some (.ob c (.map true 33 false 1) (.node [.node (ts.map (trE c)), .v (.int .i64 (lk : Nat))])) := by
  have h : ¬ 1000 = 1001 := by omega
  simp only [rgL, look, h, if_false, if_true]
theorem okL_two {M : List (Nat × Loc)} {a b : AV} (h1 : okA M a = true) (h2 : okA M b = true) : okL M [a, b] = true := by simp only [okL, h1, h2, Bool.and_self]
theorem okL_three {M : List (Nat × Loc)} {a b c : AV} (h1 : okA M a = true) (h2 : okA M b = true) (h3 : okA M c = true) : okL M [a, b, c] = true := by simp only [okL, h1, h2, h3, Bool.and_self]
theorem ok_node {M : List (Nat × Loc)} {zs : List AV} (h : okL M zs = true) : okA M (.node zs) = true := by simp only [okA, h]
theorem ok_v (M : List (Nat × Loc)) (x : Value) : okA M (.v x) = true := ok_closed rfl rfl
theorem ok_dv (M : List (Nat × Loc)) (d : Dg) : okA M (dv d) = true := by
  have : closed (dv d) = true := by simp
  have h := goodA_closed (M := M) this
  unfold dv at h ⊢
  simpa only [okA] using h
theorem rg_ok {ts : List Tr} (hf : Fine ts) (lk : Nat) : ∀ e ∈ rgL 0 ts lk, okE (rgL 0 ts lk) e.2 = true := fun e he => by
  rcases List.mem_cons.1 he with rfl | he
  · have : okL (rgL 0 ts lk) [.oref 1001 0 true] = true := by simp only [okL, ok_oref (rg_look0 0 ts lk), Bool.and_self]
    exact ok_node this
  · rcases List.mem_cons.1 he with rfl | he
    · refine ok_node (okL_two (ok_node (okL_map fun x hx => ?_)) (ok_v _ _))
      exact ok_node (okL_three (ok_node (okL_two (ok_dv _ _) (ok_v _ _))) (ok_ptr (rg_look (c := 0) (lk := lk) hf hx).1) (ok_v _ _))
    · obtain ⟨x, hx, rfl | rfl⟩ := flat_mem.1 he
      · exact ok_node (okL_three (ok_closed (by simp [closed]) rfl) (ok_v _ _) (ok_oref (rg_look (c := 0) (lk := lk) hf hx).2))
      · refine ok_node (okL_two (ok_node (okL_map fun p hp => ?_)) (ok_v _ _))
        exact ok_node (okL_three (ok_v _ _) (ok_v _ _) (ok_v _ _))
theorem rg_sane {ts : List Tr} (hf : Fine ts) (lk : Nat) : Sane (rgL 0 ts lk) := ⟨rg_gens ts lk, rg_ok hf lk, rg_nodup hf 0 lk⟩

/-! The look-up of a key. -/
def keyIs (root : Dg) (h : Nat) (x : Tr) : Bool := decide (root = x.t.root ∧ (h : Int) = (x.t.h : Int))
theorem ents_all (c : Nat) : ∀ (ts : List Tr), allEnt 33 1 (ts.map (trE c)) = true
  | [] => rfl
  | x :: ts => by
    have := ents_all c ts
    simp [trE, this]
theorem ents_find (c : Nat) (root : Dg) (h : Nat) : ∀ (ts : List Tr), findA (.st [.ints .u8 32, .int .i64]) (.node [dv root, .v (.int .i64 (h : Nat))]) (ts.map (trE c)) = some (ts.findIdx? (keyIs root h))
  | [] => rfl
  | x :: ts => by
    have hc := cmp_key root x.t.root (h : Nat) (x.t.h : Nat)
    simp only [List.map_cons, findA_cons, trE, entK_entA, hc, Option.bind_some, List.findIdx?_cons]
    have ih := ents_find c root h ts
    rw [ih]
    show (if decide (root = x.t.root ∧ (h : Int) = (x.t.h : Int)) = true then _ else _) = some (if keyIs root h x = true then _ else _)
    unfold keyIs
    split <;> simp
theorem find_tr {ts : List Tr} (hf : Fine ts) {x : Tr} (hx : x ∈ ts) : ∃ i, ts.findIdx? (keyIs x.t.root x.t.h) = some i ∧ ts[i]? = some x := by
  have h1 : (ts.findIdx? (keyIs x.t.root x.t.h)).isSome = true := by
    rw [List.findIdx?_isSome, List.any_eq_true]
    exact ⟨x, hx, by simp [keyIs]⟩
  obtain ⟨i, hi⟩ := Option.isSome_iff_exists.1 h1
  obtain ⟨hlt, hp, _⟩ := List.findIdx?_eq_some_iff_getElem.1 hi
  refine ⟨i, hi, ?_⟩
  rw [List.getElem?_eq_getElem hlt]
  obtain ⟨j, hj, e⟩ := List.getElem_of_mem hx
  have hk : (ts[i]).key = x.key := by
    simp only [keyIs, decide_eq_true_eq] at hp
    exact Prod.ext hp.1.symm (by have := hp.2; simp only [Tr.key]; omega)
  have hkn := hf.keys
  unfold List.Nodup at hkn
  rw [List.pairwise_map, List.pairwise_iff_getElem] at hkn
  rcases Nat.lt_trichotomy i j with h | h | h
  · exact absurd (by rw [hk, e]) (hkn i j hlt hj h)
  · subst h; rw [e]
  · exact absurd (by rw [hk, e]) (hkn j i hj hlt h)
theorem find_no {ts : List Tr} {root : Dg} {h : Nat} (hn : ∀ x ∈ ts, x.key ≠ (root, h)) : ts.findIdx? (keyIs root h) = none := by
  rw [List.findIdx?_eq_none_iff]
  intro x hx
  simp only [keyIs, decide_eq_false_iff_not]
  rintro ⟨h1, h2⟩
  exact hn x hx (Prod.ext h1.symm (by simp only [Tr.key]; omega))

end Go.Proofs.YtphggannefpleaaDoor.WL

end
section
/-
  CHAPTER 06: contracts of a ring with any number of trees.
-/
namespace Go.Proofs.YtphggannefpleaaDoor.WL
open Go
set_option maxHeartbeats 8000000
attribute [local irreducible] comp hb sha leafD pairD secD shutD wholeD pubD ofD leavesD nE nO

theorem nE_low {i k : Nat} (h : k < 2000000000) : (k = nE i) = False := eq_false (by have := big_le; unfold nE; omega)
theorem nO_low {i k : Nat} (h : k < 2000000000) : (k = nO i) = False := eq_false (by have := big_le; unfold nO; omega)
theorem nE_lt {i k : Nat} (h : k < 2000000000) : (nE i < k) = False := eq_false (by have := big_le; unfold nE; omega)
theorem nO_lt {i k : Nat} (h : k < 2000000000) : (nO i < k) = False := eq_false (by have := big_le; unfold nO; omega)
theorem nE_low' {i k : Nat} (h : k < 2000000000) : (nE i = k) = False := eq_false (by have := big_le; unfold nE; omega)
theorem nO_low' {i k : Nat} (h : k < 2000000000) : (nO i = k) = False := eq_false (by have := big_le; unfold nO; omega)
theorem X_low {X : List (Nat × Loc)} {c : Nat} {ts : List Tr} {lk : Nat} (h : ∀ k ∈ names X, k < 1000) : ∀ k ∈ names X, k ∉ names (rgL c ts lk) := fun k hk hn => by
  have := h k hk
  rcases rg_names.1 hn with rfl | rfl | ⟨x, _, rfl | rfl⟩
  · omega
  · omega
  · have := big_le; unfold nE at *; omega
  · have := big_le; unfold nO at *; omega
/-- A ring's call that leaves memory as it is. -/
theorem call_same {P : Program} {G : Nat → Option AV} {Q : Exit → SA → Prop} [hq : Resp Q] {f clk i n : Nat} {d : Option Nat} {vals args : List AV} {r : List COper} {fr : List (Nat × AV)} {m M : List (Nat × Loc)} {lg : Log} {dr : Option (List Nat × List (Nat × Nat))} {keepS : List Nat} {k : List Kont}
    {res : AV} (c : Nat) (hm : Meets P G f args M false res M) (h : Sane M) (ha : okL M args = true) (hv : vals = reL c args) (hres : okA M res = true ∨ ∃ zs, res = .tup zs ∧ okL M zs = true)
    (hlook : ∀ e ∈ M, look m e.1 = some (reLoc c e.2))
    (hk : ∀ x, goR P G Q clk r (i + 1) (setL fr d (resRe c res)) m (lg ++ [(i, x)]) dr keepS n k) : goV P G Q (some vals) (.call f) d clk r i fr m lg dr keepS n k :=
  call_id c hm h h (fun _ h => h) ha hv hres hlook (fun k => by
    by_cases hk : k ∈ names M
    · rw [if_pos hk]
      obtain ⟨e, he, rfl⟩ := List.mem_map.1 hk
      rw [hlook e he, look_reM, look_of_mem h.nd he]
      rfl
    · rw [if_neg hk]) hk

theorem ok_res2 {M : List (Nat × Loc)} {a b : AV} (h1 : okA M a = true) (h2 : okA M b = true) : okA M (.tup [a, b]) = true ∨ ∃ zs, AV.tup [a, b] = .tup zs ∧ okL M zs = true := .inr ⟨_, rfl, okL_two h1 h2⟩
theorem Sane.re0 {M : List (Nat × Loc)} (h : Sane M) : ∀ e ∈ M, reLoc 0 e.2 = e.2 := fun e he => by
  have h1 := h.ok e he
  have h2 := h.gens e he
  cases hq : e.2 with
  | var g x => rw [hq] at h1 h2; simp only [Loc.gen] at h2; subst h2; simp only [reLoc, WL.re0 h.gens x h1]
  | rows g sz xs => rw [hq] at h1; simp [okE] at h1
  | ob g q x => rw [hq] at h1 h2; simp only [Loc.gen] at h2; subst h2; simp only [reLoc, WL.re0 h.gens x h1]
/-- Behind one's own variables memory looks as before. -/
theorem look_own0 {X M : List (Nat × Loc)} (hs : Sane M) (hX : ∀ k ∈ names X, k ∉ names M) : ∀ e ∈ M, look (X ++ M) e.1 = some e.2 := fun e he => by
  rw [look_app, if_neg (fun h => hX _ h (List.mem_map.2 ⟨e, he, rfl⟩)), look_of_mem hs.nd he]
theorem look_own1 {X M : List (Nat × Loc)} (hs : Sane M) (hX : ∀ k ∈ names X, k ∉ names M) : ∀ e ∈ M, look (X ++ M) e.1 = some (reLoc 0 e.2) := fun e he => by
  rw [hs.re0 e he]; exact look_own0 hs hX e he
theorem entry_tr {ts : List Tr} (hf : Fine ts) (lk : Nat) {x : Tr} (hx : x ∈ ts) :
    Meets Tryd.prog Gt fn_ring_Ring_entry [.ptr 1000 0 0, keyA x.t.root x.t.h] (rgL 0 ts lk) false (.tup [.ptr (nE x.id) 0 0, .v (.int .i64 0)]) (rgL 0 ts lk) := by
  have hs := rg_sane hf lk
  have hres := ok_res2 (ok_ptr (off := 0) (rg_look (c := 0) (lk := lk) hf hx).1) (ok_v (rgL 0 ts lk) (.int .i64 0))
  refine meets_of_go mix k_ring_Ring_entry (good_id hs hres) ?_
  obtain ⟨i, hi, hge⟩ := find_tr hf hx
  have hfa := ents_find 0 x.t.root x.t.h ts
  rw [hi] at hfa
  have hall := ents_all 0 ts
  have hge2 : (ts.map (trE 0))[i]? = some (trE 0 x) := by rw [List.getElem?_map, hge]; rfl
  have hk := keyA_cmp x.t.root x.t.h
  have hown := look_own0 (X := [(3, .var 2 (keyA x.t.root x.t.h))]) hs (X_low (by simp [names]))
  generalize hM : rgL 0 ts lk = M at *
  unfold rgL at hM
  subst hM
  generalize ts.map (trE 0) = E at *
  generalize flatT 0 ts = H at *
  unfold trE at hge2
  simp [keyA, hall, hk, hfa, hge2]
  exact post_id (.inr rfl) hs rfl rfl hres hown
theorem entry_no {ts : List Tr} (hf : Fine ts) (lk : Nat) {root : Dg} {h : Nat} (hn : ∀ x ∈ ts, x.key ≠ (root, h)) :
    Meets Tryd.prog Gt fn_ring_Ring_entry [.ptr 1000 0 0, keyA root h] (rgL 0 ts lk) false (.tup [.v (.pointer none), .v (.int .i64 7)]) (rgL 0 ts lk) := by
  have hs := rg_sane hf lk
  have hres := ok_res2 (ok_v (rgL 0 ts lk) (.pointer none)) (ok_v (rgL 0 ts lk) (.int .i64 7))
  refine meets_of_go mix k_ring_Ring_entry (good_id hs hres) ?_
  have hfa := ents_find 0 root h ts
  rw [find_no hn] at hfa
  have hall := ents_all 0 ts
  have hk := keyA_cmp root h
  have hown := look_own0 (X := [(3, .var 2 (keyA root h))]) hs (X_low (by simp [names]))
  generalize hM : rgL 0 ts lk = M at *
  unfold rgL at hM
  subst hM
  generalize ts.map (trE 0) = E at *
  generalize flatT 0 ts = H at *
  simp [keyA, hall, hk, hfa]
  exact post_id (.inr rfl) hs rfl rfl hres hown

/-- One tree is turned. -/
def upT (ts : List Tr) (i : Nat) (t : One) : List Tr := ts.map fun y => if y.id = i then ⟨i, t⟩ else y
theorem upT_ids (ts : List Tr) (i : Nat) (t : One) : (upT ts i t).map (·.id) = ts.map (·.id) := by
  unfold upT
  rw [List.map_map]
  refine List.map_congr_left fun y _ => ?_
  show (if y.id = i then (⟨i, t⟩ : Tr) else y).id = y.id
  split
  · rename_i h; exact h.symm
  · rfl
theorem upT_mem {ts : List Tr} (hn : (ts.map (·.id)).Nodup) {x : Tr} (hx : x ∈ ts) {t : One} {y : Tr} : y ∈ upT ts x.id t ↔ y = ⟨x.id, t⟩ ∨ (y ∈ ts ∧ y.id ≠ x.id) := by
  unfold upT
  rw [List.mem_map]
  constructor
  · rintro ⟨z, hz, rfl⟩
    by_cases h : z.id = x.id
    · rw [if_pos h]; exact .inl rfl
    · rw [if_neg h]; exact .inr ⟨hz, h⟩
  · rintro (rfl | ⟨h1, h2⟩)
    · exact ⟨x, hx, if_pos rfl⟩
    · exact ⟨y, h1, if_neg h2⟩
theorem tr_eq {ts : List Tr} (hn : (ts.map (·.id)).Nodup) {x y : Tr} (hx : x ∈ ts) (hy : y ∈ ts) (e : x.id = y.id) : x = y := by
  obtain ⟨i, hi, rfl⟩ := List.getElem_of_mem hx
  obtain ⟨j, hj, rfl⟩ := List.getElem_of_mem hy
  unfold List.Nodup at hn
  rw [List.pairwise_map, List.pairwise_iff_getElem] at hn
  rcases Nat.lt_trichotomy i j with h | h | h
  · exact absurd e (hn i j hi hj h)
  · subst h; rfl
  · exact absurd e.symm (hn j i hj hi h)
theorem upT_keys {ts : List Tr} (hn : (ts.map (·.id)).Nodup) {x : Tr} (hx : x ∈ ts) {t : One} (hk : t.root = x.t.root ∧ t.h = x.t.h) : (upT ts x.id t).map Tr.key = ts.map Tr.key := by
  unfold upT
  rw [List.map_map]
  refine List.map_congr_left fun y hy => ?_
  show (if y.id = x.id then (⟨x.id, t⟩ : Tr) else y).key = y.key
  split
  · rename_i h
    have := tr_eq hn hy hx h
    subst this
    exact Prod.ext hk.1 hk.2
  · rfl
theorem upT_fine {ts : List Tr} (hf : Fine ts) {x : Tr} (hx : x ∈ ts) {t : One} (hk : t.root = x.t.root ∧ t.h = x.t.h) : Fine (upT ts x.id t) :=
  ⟨by rw [upT_ids]; exact hf.ids, by rw [upT_keys hf.ids hx hk]; exact hf.keys⟩
theorem upT_ents (c : Nat) {ts : List Tr} (hn : (ts.map (·.id)).Nodup) {x : Tr} (hx : x ∈ ts) {t : One} (hk : t.root = x.t.root ∧ t.h = x.t.h) : (upT ts x.id t).map (trE c) = ts.map (trE c) := by
  unfold upT
  rw [List.map_map]
  refine List.map_congr_left fun y hy => ?_
  show trE c (if y.id = x.id then (⟨x.id, t⟩ : Tr) else y) = trE c y
  split
  · rename_i h
    have := tr_eq hn hy hx h
    subst this
    unfold trE
    rw [hk.1, hk.2]
  · rfl
/-- What lies where, behind a turn. -/
theorem up_look {ts : List Tr} (hf : Fine ts) (lk : Nat) {x : Tr} (hx : x ∈ ts) {t : One} (hk : t.root = x.t.root ∧ t.h = x.t.h) {m X : List (Nat × Loc)} (hX : ∀ k ∈ names X, k ∉ names (rgL 0 ts lk))
    (h1 : look m (nE x.id) = some (locE 0 x.id t)) (h2 : look m (nO x.id) = some (locO 0 t)) (h3 : ∀ k, k ≠ nE x.id → k ≠ nO x.id → look m k = look (X ++ rgL 0 ts lk) k) :
    ∀ e ∈ rgL 0 (upT ts x.id t) lk, look m e.1 = some e.2 := by
  have hs := rg_sane hf lk
  have hown := look_own0 hs hX
  intro e he
  have hent := upT_ents 0 hf.ids hx hk
  unfold rgL at he
  rw [hent] at he
  rcases List.mem_cons.1 he with rfl | he
  · rw [h3 _ (by have := big_le; unfold nE; omega) (by have := big_le; unfold nO; omega)]
    exact hown _ List.mem_cons_self
  rcases List.mem_cons.1 he with rfl | he
  · rw [h3 _ (by have := big_le; unfold nE; omega) (by have := big_le; unfold nO; omega)]
    exact hown _ (List.mem_cons_of_mem _ List.mem_cons_self)
  obtain ⟨y, hy, he⟩ := flat_mem.1 he
  rcases (upT_mem hf.ids hx).1 hy with rfl | ⟨hy1, hy2⟩
  · rcases he with rfl | rfl
    · exact h1
    · exact h2
  · have hm1 : (nE y.id, locE 0 y.id y.t) ∈ rgL 0 ts lk := List.mem_cons_of_mem _ (List.mem_cons_of_mem _ (flat_mem.2 ⟨y, hy1, .inl rfl⟩))
    have hm2 : (nO y.id, locO 0 y.t) ∈ rgL 0 ts lk := List.mem_cons_of_mem _ (List.mem_cons_of_mem _ (flat_mem.2 ⟨y, hy1, .inr rfl⟩))
    rcases he with rfl | rfl
    · rw [h3 _ (fun e => hy2 (nE_inj.1 e)) (fun e => nE_nO _ _ e)]
      exact hown _ hm1
    · rw [h3 _ (fun e => nE_nO _ _ e.symm) (fun e => hy2 (nO_inj.1 e))]
      exact hown _ hm2
theorem look_ins {α : Type} (l : List (Nat × α)) (k t : Nat) (v : α) : look (insL l k v) t = if t = k then some v else look l t := by
  rw [look_insL]
  unfold upd
  rfl

theorem take_tr {ts : List Tr} (hf : Fine ts) (lk : Nat) {x : Tr} (hx : x ∈ ts) (hh : x.t.h ≤ 6) (hn : x.t.nx < 2 ^ x.t.h) (hK : ∀ p ∈ x.t.K, p.1 ≠ (x.t.nx : Int)) (hc : x.t.ck ≤ 1000000) :
    Meets Tryd.prog Gt fn_ring_Ring_Take [.ptr 1000 0 0, keyA x.t.root x.t.h] (rgL 0 ts lk) false (.tup [.v (.int .i64 (x.t.nx : Nat)), .v (.int .i64 0)]) (rgL 0 (upT ts x.id (takeT x.t)) lk) := by
  have hs := rg_sane hf lk
  have hkk : (takeT x.t).root = x.t.root ∧ (takeT x.t).h = x.t.h := ⟨rfl, rfl⟩
  have hs' := rg_sane (upT_fine hf hx hkk) lk
  have hres := ok_res2 (ok_v (rgL 0 (upT ts x.id (takeT x.t)) lk) (.int .i64 (x.t.nx : Nat))) (ok_v _ (.int .i64 0))
  refine meets_of_go mix k_ring_Ring_Take (good_id hs' hres) ?_
  have m1 := entry_tr hf lk hx
  have hres1 := ok_res2 (ok_ptr (off := 0) (rg_look (c := 0) (lk := lk) hf hx).1) (ok_v (rgL 0 ts lk) (.int .i64 0))
  have hX : ∀ k ∈ names [(3, Loc.var 2 (keyA x.t.root x.t.h))], k ∉ names (rgL 0 ts lk) := X_low (by simp [names])
  have hown := look_own1 hs hX
  have hend := fun m h1 h2 h3 => up_look (m := m) hf lk hx hkk hX h1 h2 h3
  have hargs : okL (rgL 0 ts lk) [.ptr 1000 0 0, keyA x.t.root x.t.h] = true := okL_two (ok_ptr (x := .node [.oref 1001 0 true]) rfl) (ok_node (okL_two (ok_dv _ _) (ok_v _ _)))
  obtain ⟨hE, hO⟩ := look_flat 0 ts x hf.ids hx
  -- numbers
  have hmin : min x.t.h 64 = x.t.h := by omega
  obtain ⟨q, hq⟩ : ∃ q : Nat, q = 2 ^ x.t.h := ⟨_, rfl⟩
  have hq64 : q ≤ 64 := by rw [hq]; exact Nat.le_trans (Nat.pow_le_pow_right (by omega) hh) (by decide)
  have hqi : ((2 : Int) ^ x.t.h) = (q : Int) := by rw [hq]; simp
  have w1 : IntKind.i64.wrap (q : Int) = (q : Int) := w64_id (by omega)
  rw [← hq] at hn
  have w2 : IntKind.i64.wrap ((x.t.nx : Int) + 1) = ((x.t.nx + 1 : Nat) : Int) := w64_succ (by omega)
  have w3 : IntKind.i64.wrap ((x.t.ck : Int) + 1) = ((x.t.ck + 1 : Nat) : Int) := w64_succ (by omega)
  have hnq : ¬ (q : Int) ≤ (x.t.nx : Nat) := by omega
  have hnq2 : ¬ q ≤ x.t.nx := by omega
  have hfi : x.t.K.findIdx? (fun p => decide (p.1 = (x.t.nx : Int))) = none := by
    rw [List.findIdx?_eq_none_iff]
    intro p hp
    simpa using hK p hp
  have hfa := opE_find (x.t.nx : Int) x.t.K
  rw [hfi] at hfa
  have hcs : cmpA (.int .i64) (.v (.int .i64 (x.t.nx : Int))) (.v (.int .i64 (x.t.nx : Int))) = some true := by simp [cmpA]
  have hsn := opE_snoc x.t.K (x.t.nx : Int) x.t.ck
  have hee := nE_nO x.id x.id
  have hee' : ¬ nO x.id = nE x.id := fun e => hee e.symm
  generalize hM : rgL 0 ts lk = M at *
  unfold rgL at hM
  subst hM
  generalize ts.map (trE 0) = E at *
  generalize flatT 0 ts = H at *
  unfold locE at hE
  unfold locO at hO
  simp [keyA]
  refine call_same 0 m1 hs hargs rfl hres1 hown (fun z => ?_)
  simp [resRe, reL, reA, hmin, hqi, w1, hnq, hnq2, w2, hcs, hfa, hE, hO, nE_low, nO_low, nE_lt, nO_lt, nE_low', nO_low', look_ins, hee, hee']
  refine post_id (.inr rfl) hs' rfl rfl hres (hend _ ?_ ?_ ?_)
  · simp [look_ins, nE_low, nO_low, nE_low', nO_low', hee, locE, takeT]
  · simp [look_ins, nE_low, nO_low, nE_low', nO_low', hee', locO, takeT, hsn]
  · intro k hk1 hk2
    simp [look, look_ins, hk1, hk2, keyA]
end Go.Proofs.YtphggannefpleaaDoor.WL

end
