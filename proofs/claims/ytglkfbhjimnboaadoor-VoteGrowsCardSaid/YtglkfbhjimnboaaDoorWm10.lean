/- Texts put together: S13c, S13d, S05c, L05a, S14g, L13a, S05d, S14i, L13b, S13g, S13e. -/
import Derived.Test.YtglkfbhjimnboaaDoorWm9
import Derived.Shelf.SlIterI.Sorted
import Derived.Shelf.SortM.Plain
import Derived.Shelf.SortM.SortNone
import Derived.Lib.SliceRun
section
/-
  CHAPTER 13: contracts of a box of votes.
-/
namespace Go.Proofs.YtglkfbhjimnboaaDoor.WL
open Go
set_option maxHeartbeats 8000000
variable {G : Nat → Option AV}

def plcA (k r f : Int) : AV := .node [.v (.int .i64 k), .v (.int .i64 r), .v (.int .i64 f)]
def boxE : Nat → List Vote → List AV
  | _, [] => []
  | i, v :: vs => entA (plcA v.kind v.round v.src) v.av (i : Nat) :: boxE (i + 1) vs
theorem boxE_snoc (v : Vote) : ∀ (vs : List Vote) (i : Nat), boxE i vs ++ [entA (plcA v.kind v.round v.src) v.av ((i + vs.length : Nat) : Int)] = boxE i (vs ++ [v])
  | [], i => by simp [boxE]
  | w :: vs, i => by
    have := boxE_snoc v vs (i + 1)
    simp only [List.cons_append, boxE, List.length_cons]
    rw [← this, show i + (vs.length + 1) = i + 1 + vs.length by omega]
@[simp] theorem boxE_closed : ∀ (vs : List Vote) (i : Nat), closeds (boxE i vs) = true
  | [], _ => rfl
  | v :: vs, i => by simp [boxE, closeds, boxE_closed vs (i + 1), plcA]
theorem closeds_app : ∀ (a b : List AV), closeds (a ++ b) = (closeds a && closeds b)
  | [], _ => rfl
  | x :: a, b => by simp [closeds, closeds_app a b, Bool.and_assoc]
@[simp] theorem boxE_all : ∀ (vs : List Vote) (i : Nat), allEnt 3 41 (boxE i vs) = true
  | [], _ => rfl
  | v :: vs, i => by simp [boxE, boxE_all vs (i + 1), plcA]
@[simp] theorem boxE_length : ∀ (vs : List Vote) (i : Nat), (boxE i vs).length = vs.length
  | [], _ => rfl
  | v :: vs, i => by simp [boxE, boxE_length vs (i + 1)]
theorem boxE_get : ∀ (vs : List Vote) (i j : Nat), (boxE i vs)[j]? = (vs[j]?).map fun v => entA (plcA v.kind v.round v.src) v.av ((i + j : Nat) : Int)
  | [], _, _ => rfl
  | v :: vs, i, 0 => by simp [boxE]
  | v :: vs, i, j + 1 => by
    have := boxE_get vs (i + 1) j
    simp only [boxE, List.getElem?_cons_succ, this]
    congr 1
    funext v
    congr 2
    omega
theorem boxE_find (k r f : Int) : ∀ (vs : List Vote) (i : Nat), findA (.st [.int .i64, .int .i64, .int .i64]) (plcA k r f) (boxE i vs) = some (vs.findIdx? (plc k r f))
  | [], _ => rfl
  | v :: vs, i => by
    have hc : cmpA (.st [.int .i64, .int .i64, .int .i64]) (plcA k r f) (plcA v.kind v.round v.src) = some (plc k r f v) := by
      simp only [plcA, cmpA, cmpL, and_self, if_true, Option.bind_some, Option.map_some, Bool.and_true, Option.some.injEq, plc]
      rw [Bool.eq_iff_iff]
      simp only [Bool.and_eq_true, beq_iff_eq, decide_eq_true_eq]
      constructor
      · rintro ⟨rfl, rfl, rfl⟩; exact ⟨⟨rfl, rfl⟩, rfl⟩
      · rintro ⟨⟨rfl, rfl⟩, rfl⟩; exact ⟨rfl, rfl, rfl⟩
    simp only [boxE, findA_cons, entK_entA, hc, Option.bind_some, boxE_find k r f vs (i + 1), Option.map_some, List.findIdx?_cons]
    cases plc k r f v <;> simp
theorem find_idx (vs : List Vote) (k r f : Int) : findP vs k r f = (vs.findIdx? (plc k r f)).bind fun i => vs[i]? := by
  unfold findP
  induction vs with
  | nil => rfl
  | cons v vs ih =>
    rw [List.findIdx?_cons, List.find?_cons]
    cases hp : plc k r f v with
    | true => simp
    | false =>
      simp only [Bool.false_eq_true, if_false]
      rw [ih]
      cases List.findIdx? (plc k r f) vs <;> simp
/-- A box's memory. -/
def boxM (g : Nat) (vs : List Vote) : List (Nat × Loc) := [(1000, .var g (.node [.oref 1001 g true])), (1001, .ob g (.map true 3 true 41) (.node [.node (boxE 0 vs), .v (.int .i64 (vs.length : Nat))]))]

theorem newBox_meets : Meets Tryd.prog G fn_vote_NewBox [] [] true (.ptr 1000 1 0) (boxM 1 []) := by
  refine meets_of_go mix k_vote_NewBox ⟨by simp [boxM, boxE], by simp [boxM], by simp [boxM]⟩ ?_
  simp
  refine post_end (.inr rfl) ?_
  simp [boxM, boxE]
/-! Parts of a vote. -/
@[simp] theorem vsub_kind (v : Vote) : sub false 1 v.av 0 = some (.v (.int .i64 v.kind)) := by simp [Vote.av]
@[simp] theorem vsub_epoch (v : Vote) : sub false 1 v.av 1 = some (.v (.int .i64 v.epoch)) := by simp [Vote.av]
@[simp] theorem vsub_height (v : Vote) : sub false 1 v.av 2 = some (.v (.int .i64 v.height)) := by simp [Vote.av]
@[simp] theorem vsub_round (v : Vote) : sub false 1 v.av 3 = some (.v (.int .i64 v.round)) := by simp [Vote.av]
@[simp] theorem vsub_dg (v : Vote) : sub true 32 v.av 4 = some (dv v.dg) := by simp [Vote.av]
@[simp] theorem vsub_src (v : Vote) : sub false 1 v.av 36 = some (.v (.int .i64 v.src)) := by simp [Vote.av]
@[simp] theorem vsub_sig (v : Vote) : sub true 4 v.av 37 = some v.sig.avS := by simp [Vote.av, Sig.avS]
theorem plc_cmp (k r f : Int) : cmpA (.st [.int .i64, .int .i64, .int .i64]) (.node [.v (.int .i64 k), .v (.int .i64 r), .v (.int .i64 f)]) (.node [.v (.int .i64 k), .v (.int .i64 r), .v (.int .i64 f)]) = some true := by simp [cmpA, cmpL]

theorem add_old (vs : List Vote) (v : Vote) (h : (findP vs v.kind v.round v.src).isSome = true) :
    Meets Tryd.prog G fn_vote_Box_Add [.ptr 1000 0 0, v.av] (boxM 0 vs) false (.v (.bool false)) (boxM 0 vs) := by
  refine meets_of_go mix k_vote_Box_Add ⟨by simp [boxM, plcA], by simp, by simp [boxM]⟩ ?_
  obtain ⟨x, hx⟩ := Option.isSome_iff_exists.1 h
  rw [find_idx] at hx
  obtain ⟨i, hi, hxi⟩ := Option.bind_eq_some_iff.1 hx
  have hfa := boxE_find v.kind v.round v.src vs 0
  rw [hi] at hfa
  have hge := boxE_get vs 0 i
  rw [hxi] at hge
  have hcc := plc_cmp v.kind v.round v.src
  unfold plcA at hfa
  simp only [Option.map_some] at hge
  simp [boxM, hcc, hfa, hge]
  refine post_end (.inr rfl) ?_
  simp
theorem add_new (vs : List Vote) (v : Vote) (h : findP vs v.kind v.round v.src = none) (hn : vs.length ≤ 1000) :
    Meets Tryd.prog G fn_vote_Box_Add [.ptr 1000 0 0, v.av] (boxM 0 vs) false (.v (.bool true)) (boxM 0 (vs ++ [v])) := by
  have hs := boxE_snoc v vs 0
  rw [Nat.zero_add] at hs
  unfold boxM
  rw [← hs]
  have hcl : closeds (boxE 0 vs ++ [entA (plcA v.kind v.round v.src) v.av (vs.length : Nat)]) = true := by
    rw [closeds_app, boxE_closed]; simp [closeds, plcA]
  refine meets_of_go mix k_vote_Box_Add ⟨by simp [plcA]; exact goods_closeds (by simpa [plcA] using hcl), by simp, by simp⟩ ?_
  have hi : vs.findIdx? (plc v.kind v.round v.src) = none := by
    unfold findP at h
    rw [List.findIdx?_eq_none_iff]
    intro x hx
    have := List.find?_eq_none.1 h x hx
    simpa using this
  have hfa := boxE_find v.kind v.round v.src vs 0
  rw [hi] at hfa
  have hcc := plc_cmp v.kind v.round v.src
  unfold plcA at hfa hcl ⊢
  simp [hcc, hfa]
  refine post_end (.inr rfl) ?_
  simp [hcl]
end Go.Proofs.YtglkfbhjimnboaaDoor.WL

end
section
/-
  CHAPTER 13: counting votes.
-/

namespace Go.Proofs.YtglkfbhjimnboaaDoor.WL
open Go
set_option maxHeartbeats 8000000
variable {G : Nat → Option AV}

theorem add_meets (vs : List Vote) (v : Vote) (hn : vs.length ≤ 1000) : Meets Tryd.prog G fn_vote_Box_Add [.ptr 1000 0 0, v.av] (boxM 0 vs) false (.v (.bool (!(findP vs v.kind v.round v.src).isSome))) (boxM 0 (addB vs v)) := by
  cases h : findP vs v.kind v.round v.src with
  | none =>
    have e : addB vs v = vs ++ [v] := by simp [addB, h]
    rw [e]
    exact add_new vs v h hn
  | some x =>
    have e : addB vs v = vs := by simp [addB, h]
    rw [e]
    exact add_old vs v (by simp [h])

theorem for_meets (vs : List Vote) (k r : Int) (d : Dg) (hn : vs.length ≤ 1000) : Meets Tryd.prog G fn_vote_Box_For [.ptr 1000 0 0, .v (.int .i64 k), .v (.int .i64 r), dv d] (boxM 0 vs) false (.sl 41 (Votes (forTo vs k r d 63))) (boxM 0 vs) := by
  have hF : ∀ i, forTo vs k r d (i + 1) = forTo vs k r d i ++ (pickB vs k r d ((i : Int) + 1)).toList := forTo_succ vs k r d
  have hF0 : forTo vs k r d 0 = [] := rfl
  have hFl : ∀ i, (forTo vs k r d i).length ≤ i := forTo_len vs k r d
  obtain ⟨F, hFe⟩ : ∃ F : Nat → List Vote, ∀ i, F i = forTo vs k r d i := ⟨_, fun _ => rfl⟩
  simp only [← hFe] at hF hF0 hFl
  rw [← hFe]
  refine meets_of_go mix k_vote_Box_For ⟨by simp [boxM], by simp, by simp [boxM]⟩ ?_
  simp [boxM]
  refine go_up 63 (fun j (_ : Unit) => True) (fun j _ c => ⟨[(0, .ptr 1000 0 0), (1, .v (.int .i64 k)), (2, .v (.int .i64 r)), (7, .ptr 7 c 0), (9, .row 9 41 c 0 (F j).length), (10, .v (.int .i64 ((j : Int) + 1)))],
    [(7, .var c (dv d)), (9, .rows c 41 (Votes (F j)))] ++ boxM 0 vs, c + 1⟩) () _ (Weak.re1 1000 (by simp [hF0, boxM])) trivial ?_ ?_
  · intro j _ c hj _
    have hlj := hFl j
    have hFj := hF j
    have hfa := boxE_find k r ((j : Int) + 1) vs 0
    have hidx := find_idx vs k r ((j : Int) + 1)
    unfold plcA at hfa
    have hcc := plc_cmp k r ((j : Int) + 1)
    have h1 : (j : Int) + 1 ≤ 63 := by omega
    have hw : IntKind.i64.wrap ((j : Int) + 1 + 1) = (j : Int) + 1 + 1 := w64_id (by omega)
    cases hq : vs.findIdx? (plc k r ((j : Int) + 1)) with
    | none =>
      rw [hq] at hfa hidx
      have hp : pickB vs k r d ((j : Int) + 1) = none := by simp [pickB, hidx]
      rw [hp] at hFj
      simp [boxM, hfa, hcc, h1, hw]
      exact ⟨(), _, Weak.re1 1000 (by simp [hFj, boxM]), trivial⟩
    | some i =>
      obtain ⟨hlt, -⟩ := List.findIdx?_eq_some_iff_getElem.1 hq
      rw [hq] at hfa hidx
      have hge := boxE_get vs 0 i
      rw [List.getElem?_eq_getElem hlt] at hge
      simp only [Option.bind_some, List.getElem?_eq_getElem hlt] at hidx
      simp only [Option.map_some] at hge
      generalize vs[i] = v at *
      have hS := Votes_snoc (F j) v
      have f1 : fitsB ((F j).length + 1) 152 := fits (by omega) (by omega)
      by_cases hd : v.dg = d
      · have hp : pickB vs k r d ((j : Int) + 1) = some v := by simp [pickB, hidx, hd]
        rw [hp] at hFj
        simp [boxM, hfa, hge, hcc, h1, hw, hd, f1, hS]
        exact ⟨(), _, Weak.re1 1000 (by simp [hFj, boxM]), trivial⟩
      · have hp : pickB vs k r d ((j : Int) + 1) = none := by simp [pickB, hidx, hd]
        rw [hp] at hFj
        simp [boxM, hfa, hge, hcc, h1, hw, hd]
        exact ⟨(), _, Weak.re1 1000 (by simp [hFj, boxM]), trivial⟩
  · intro _ c _
    have ht : List.take (F 63).length (F 63) = F 63 := List.take_length
    simp [boxM]
    refine post_end (.inr rfl) ?_
    simp [ht, boxM]
theorem count_meets (vs : List Vote) (k r : Int) (d : Dg) (hn : vs.length ≤ 1000) : Meets Tryd.prog G fn_vote_Box_Count [.ptr 1000 0 0, .v (.int .i64 k), .v (.int .i64 r), dv d] (boxM 0 vs) false (.v (.int .i64 ((forTo vs k r d 63).length : Nat))) (boxM 0 vs) := by
  refine meets_of_go mix k_vote_Box_Count ⟨by simp [boxM], by simp, by simp [boxM]⟩ ?_
  have m1 := for_meets (G := G) vs k r d hn
  generalize forTo vs k r d 63 = F at *
  simp [boxM]
  refine call_intro m1 ?_ ?_
  · simp [boxM]
  simp [boxM]
  refine post_end (.inr rfl) ?_
  simp
end Go.Proofs.YtglkfbhjimnboaaDoor.WL

end
section
/-
  CHAPTER 05: contracts of the reference.
-/
namespace Go.Proofs.YtglkfbhjimnboaaDoor.WL
open Go
set_option maxHeartbeats 4000000
attribute [local irreducible] comp hb sha leafD pairD secD shutD wholeD pubD ofD

def Sig.same (a b : Sig) : Bool := decide (a.leaf = b.leaf) && (decide (a.op = b.op) && decide (a.sh = b.sh)) && decide (a.path = b.path)
end Go.Proofs.YtglkfbhjimnboaaDoor.WL

end
section
/-
  CHAPTER 05: walks of laws.
-/
namespace Go.Proofs.YtglkfbhjimnboaaDoor.WL
open Go
set_option maxHeartbeats 4000000
attribute [local irreducible] comp hb sha leafD pairD secD shutD wholeD pubD ofD

def Dg.one (b : UInt8) : Dg := ⟨b :: zeros 31, by simp⟩
theorem one_set (b : UInt8) : AV.arr 1 ((B (zeros 32)).set 0 (bv b)) = dv (Dg.one b) := (rfl)
theorem bv1 : AV.v (.int .u8 1) = bv 1 := (rfl)
attribute [local irreducible] Dg.one

def Sig.greatF (s : Sig) : Bool := decide (200 < s.op.length) || decide (200 < s.sh.length) || decide (200 < s.path.length)
end Go.Proofs.YtglkfbhjimnboaaDoor.WL

end
section
/-
  CHAPTER 08: the reference.
-/
namespace Go.Proofs.YtglkfbhjimnboaaDoor.WL
open Go
set_option maxHeartbeats 8000000
variable {G : Nat → Option AV}

theorem idxOf_hit {ms : List Mem} {id : Int} {k : Nat} (hk : k < ms.length) (h : (ms[k]).id = id) (hm : ∀ j (hj : j < ms.length), j < k → (ms[j]).id ≠ id) : idxOf ms id = (k : Int) := by
  have := Lib.idxBy_hit (fun _ y : Mem => decide (y.id = id)) ms ms.length k default hk (Nat.le_refl _) (decide_eq_true (by simp [hk, h])) (fun j hj => decide_eq_false (by simpa [show j < ms.length by omega] using hm j (by omega) hj))
  rwa [List.take_length] at this
attribute [local irreducible] sha idxOf faults quorum

end Go.Proofs.YtglkfbhjimnboaaDoor.WL

end
section
/-
  CHAPTER 13: the laws' first question.
-/
namespace Go.Proofs.YtglkfbhjimnboaaDoor.WL
open Go
set_option maxHeartbeats 8000000
variable {G : Nat → Option AV}

theorem ksign_frz13 (seed : Dg) (h : Int) (ls : List Dg) (n : Nat) (d : Dg) (hn : n < ls.length) (hl : ls.length ≤ 1000000) (N : Nat) (hN : N = 32) :
    Meets Tryd.prog Gt fn_keys_Tree_Sign [.ptr 1000 0 0, .v (.int .i64 (n : Nat)), dv d] (trM 0 seed h ls) false (.tup [(signK seed ls n d N).avS, .v (.int .i64 0)]) (trM 1 seed h ls) := by
  refine (ksign_meets seed h ls n d hn hl N hN).freeze ⟨by simp [trM], by simp [trM], by simp [trM]⟩ ?_
  generalize signK seed ls n d N = s at *
  simp [trM, Sig.avR, Sig.avS, Sig.rows]
attribute [local irreducible] comp hb sha leafD pairD secD shutD wholeD pubD ofD Dg.one

def mem13 (R : Dg) : Mem := ⟨1, R, 0⟩
def conf13 (R : Dg) : Conf := ⟨0, [mem13 R]⟩
def vote13 (s : Sig) : Vote := ⟨1, 0, 1, 0, Dg.zero, 1, s⟩
theorem right13 (R : Dg) (s : Sig) (h : checkK R 0 (vote13 Sig.zero).signs s = true) : rightV (conf13 R) (vote13 s) = true := by
  have hid : idxOf (conf13 R).ms 1 = ((0 : Nat) : Int) := idxOf_hit (k := 0) (by simp [conf13]) (by simp [conf13, mem13]) (by intro j _ hj; omega)
  rw [rightV_some (k := 0) (by simp [conf13]) hid]
  have hs : (vote13 s).signs = (vote13 Sig.zero).signs := rfl
  have hg : (vote13 s).good = true := by simp [vote13, Vote.good]
  rw [hs, hg]
  show (true && decide ((0 : Int) = 0) && checkK R 0 (vote13 Sig.zero).signs s) = true
  rw [h]
  rfl
theorem for13 (s : Sig) : ∀ i : Nat, forTo [vote13 s] 1 0 Dg.zero (i + 1) = [vote13 s]
  | 0 => by simp [forTo, pickB, findP, plc, vote13]
  | i + 1 => by
    rw [forTo_succ, for13 s i]
    have : pickB [vote13 s] 1 0 Dg.zero (((i + 1 : Nat) : Int) + 1) = none := by
      have h : ¬ (1 : Int) = ((i + 1 : Nat) : Int) + 1 := by omega
      simp only [pickB, findP, plc, vote13, List.find?_cons, h, decide_false, Bool.and_false, List.find?_nil, Option.bind_none]
    rw [this]
    rfl
theorem alive13_meets : Meets Tryd.prog Gt fn_l13_alive [] [] true (.v (.bool true)) [] := by
  refine meets_of_go mix k_l13_alive ⟨by simp, by simp, by simp⟩ ?_
  have o1 := one_set 1
  generalize Dg.one 1 = D1 at *
  have m1 := knew_meets D1 0 (by omega) 32 rfl
  have hl := leavesD_length D1 32 (2 ^ 0)
  have hc := sign_checks D1 0 0 (vote13 Sig.zero).signs (by omega) (by decide)
  generalize leavesD D1 32 (2 ^ 0) = l at *
  have hl1 : l.length = 1 := hl
  have m2 := kkey_meets D1 ((0 : Nat) : Int) l (by omega)
  have m5 := ksign_frz13 D1 ((0 : Nat) : Int) l 0 (vote13 Sig.zero).signs (by omega) (by omega) 32 rfl
  have hS0 : W64 (signK D1 l 0 (vote13 Sig.zero).signs 32).leaf := by simp [signK, W64]
  generalize signK D1 l 0 (vote13 Sig.zero).signs 32 = S at *
  generalize rootD l = R at *
  have hk := right13 R S hc
  have m4 := vsigns_meets (vote13 Sig.zero)
  have m6 := newBox_meets (G := Gt)
  have m7 := vright_meets (conf13 R) (vote13 S) (by simp [conf13]) (by simp [conf13, mem13, W64]) hS0
  rw [hk] at m7
  have m8 := add_new (G := Gt) [] (vote13 S) rfl (by simp)
  have m9 := add_old (G := Gt) [vote13 S] (vote13 S) (by simp [findP, plc_self])
  have m10 := count_meets (G := Gt) [vote13 S] 1 0 Dg.zero (by simp)
  rw [for13 S 62] at m10
  simp only [List.nil_append] at m8
  clear hk hc
  generalize (vote13 Sig.zero).signs = sg at *
  simp only [Int.natCast_zero] at m1 m2 m5
  simp [bv1, o1]
  refine call_intro m1 ?_ ?_
  · simp [trM1]
  simp [trM1, hl1, o1]
  refine call_intro m4 ?_ ?_
  · simp [vote13, Vote.av, Sig.zero, Sig.avS, dv]
  simp [dv]
  have hv : AV.node [.v (.int .i64 1), .v (.int .i64 0), .v (.int .i64 1), .v (.int .i64 0), .arr 1 (B (zeros 32)), .v (.int .i64 1), S.avS] = (vote13 S).av := rfl
  refine call_intro m5 ?_ ?_
  · simp [trM, hl1, dv]
  simp [trM, hl1, dv, hv]
  refine call_intro m6 ?_ ?_
  · simp [boxM]
  simp [boxM]
  refine call_intro m2 ?_ ?_
  · simp [trM, hl1]
  simp [trM, hl1]
  refine call_intro m7 ?_ ?_
  · simp [conf13, mem13, Conf.av, Mems, Mem.av, dv]
  simp
  refine call_intro m8 ?_ ?_
  · simp [boxM]
  simp [boxM]
  refine call_intro m9 ?_ ?_
  · simp [boxM]
  simp [boxM]
  refine call_intro m10 ?_ ?_
  · simp [boxM, dv]
  simp [boxM]
  refine post_end (.inr rfl) ?_
  simp
end Go.Proofs.YtglkfbhjimnboaaDoor.WL

end
section
/-
  CHAPTER 05: contracts of the reference: writing and reading.
-/
namespace Go.Proofs.YtglkfbhjimnboaaDoor.WL
open Go
set_option maxHeartbeats 4000000
variable {G : Nat → Option AV}

/-- Where the next digest goes. -/
structure KdA where
  o : List Dg
  s : List Dg
  p : List Dg
def KdA.put (a : KdA) (i : Nat) (d : Dg) : KdA := if i < 32 then { a with o := a.o ++ [d] } else if i < 64 then { a with s := a.s ++ [d] } else { a with p := a.p ++ [d] }
end Go.Proofs.YtglkfbhjimnboaaDoor.WL

end
section
/-
  CHAPTER 13: the reference: whether a vote can be.
-/
namespace Go.Proofs.YtglkfbhjimnboaaDoor.WL
open Go
set_option maxHeartbeats 8000000
variable {G : Nat → Option AV}

theorem rvgood_meets (v : Vote) : Meets Tryd.prog G fn_r13_Good [v.av] [] true (.v (.bool v.good)) [] := by
  refine meets_of_go mix k_r13_Good ⟨by simp, by simp, by simp⟩ ?_
  have e : v.good = ((decide (v.kind = 1) || decide (v.kind = 2)) && decide (0 ≤ v.epoch) && decide (v.epoch ≤ 1073741824) && decide (1 ≤ v.height) && decide (v.height ≤ 1024) && decide (0 ≤ v.round) && decide (v.round ≤ 1024) && decide (1 ≤ v.src) && decide (v.src ≤ 63)) := by
    have e1 : (decide (1 ≤ v.kind) && decide (v.kind ≤ 2)) = (decide (v.kind = 1) || decide (v.kind = 2)) := by
      rw [Bool.eq_iff_iff]
      simp only [Bool.and_eq_true, Bool.or_eq_true, decide_eq_true_eq]
      omega
    rw [← e1]
    rfl
  rw [e]
  by_cases k1 : v.kind = 1
  case pos =>
    by_cases c2 : v.epoch < 0
    case pos =>
      have d : ¬ 0 ≤ v.epoch := by omega
      simp [Vote.av, dv, eq_true k1, c2]
      refine post_end (.inr rfl) ?_
      simp [d]
    by_cases c3 : 1073741824 < v.epoch
    case pos =>
      have d : ¬ v.epoch ≤ 1073741824 := by omega
      simp [Vote.av, dv, eq_true k1, c2, c3]
      refine post_end (.inr rfl) ?_
      simp [d]
    by_cases c4 : v.height < 1
    case pos =>
      have d : ¬ 1 ≤ v.height := by omega
      simp [Vote.av, dv, eq_true k1, c2, c3, c4]
      refine post_end (.inr rfl) ?_
      simp [d]
    by_cases c5 : 1024 < v.height
    case pos =>
      have d : ¬ v.height ≤ 1024 := by omega
      simp [Vote.av, dv, eq_true k1, c2, c3, c4, c5]
      refine post_end (.inr rfl) ?_
      simp [d]
    have d : decide (0 ≤ v.epoch) = true ∧ decide (v.epoch ≤ 1073741824) = true ∧ decide (1 ≤ v.height) = true ∧ decide (v.height ≤ 1024) = true := by simp only [decide_eq_true_eq]; omega
    by_cases c6 : 0 ≤ v.round
    case neg =>
      simp [Vote.av, dv, eq_true k1, c2, c3, c4, c5, c6]
      refine post_end (.inr rfl) ?_
      simp [c6]
    by_cases c7 : v.round ≤ 1024
    case neg =>
      simp [Vote.av, dv, eq_true k1, c2, c3, c4, c5, c6, c7]
      refine post_end (.inr rfl) ?_
      simp [c7]
    by_cases c8 : 1 ≤ v.src
    case neg =>
      simp [Vote.av, dv, eq_true k1, c2, c3, c4, c5, c6, c7, c8]
      refine post_end (.inr rfl) ?_
      simp [c8]
    by_cases c9 : v.src ≤ 63
    case neg =>
      simp [Vote.av, dv, eq_true k1, c2, c3, c4, c5, c6, c7, c8, c9]
      refine post_end (.inr rfl) ?_
      simp [c9]
    rw [d.1, d.2.1, d.2.2.1, d.2.2.2]
    simp [Vote.av, dv, eq_true k1, c2, c3, c4, c5, c6, c7, c8, c9]
    refine post_end (.inr rfl) ?_
    simp
  by_cases k2 : v.kind = 2
  case pos =>
    by_cases c2 : v.epoch < 0
    case pos =>
      have d : ¬ 0 ≤ v.epoch := by omega
      simp [Vote.av, dv, k1, eq_true k2, c2]
      refine post_end (.inr rfl) ?_
      simp [d]
    by_cases c3 : 1073741824 < v.epoch
    case pos =>
      have d : ¬ v.epoch ≤ 1073741824 := by omega
      simp [Vote.av, dv, k1, eq_true k2, c2, c3]
      refine post_end (.inr rfl) ?_
      simp [d]
    by_cases c4 : v.height < 1
    case pos =>
      have d : ¬ 1 ≤ v.height := by omega
      simp [Vote.av, dv, k1, eq_true k2, c2, c3, c4]
      refine post_end (.inr rfl) ?_
      simp [d]
    by_cases c5 : 1024 < v.height
    case pos =>
      have d : ¬ v.height ≤ 1024 := by omega
      simp [Vote.av, dv, k1, eq_true k2, c2, c3, c4, c5]
      refine post_end (.inr rfl) ?_
      simp [d]
    have d : decide (0 ≤ v.epoch) = true ∧ decide (v.epoch ≤ 1073741824) = true ∧ decide (1 ≤ v.height) = true ∧ decide (v.height ≤ 1024) = true := by simp only [decide_eq_true_eq]; omega
    by_cases c6 : 0 ≤ v.round
    case neg =>
      simp [Vote.av, dv, k1, eq_true k2, c2, c3, c4, c5, c6]
      refine post_end (.inr rfl) ?_
      simp [c6]
    by_cases c7 : v.round ≤ 1024
    case neg =>
      simp [Vote.av, dv, k1, eq_true k2, c2, c3, c4, c5, c6, c7]
      refine post_end (.inr rfl) ?_
      simp [c7]
    by_cases c8 : 1 ≤ v.src
    case neg =>
      simp [Vote.av, dv, k1, eq_true k2, c2, c3, c4, c5, c6, c7, c8]
      refine post_end (.inr rfl) ?_
      simp [c8]
    by_cases c9 : v.src ≤ 63
    case neg =>
      simp [Vote.av, dv, k1, eq_true k2, c2, c3, c4, c5, c6, c7, c8, c9]
      refine post_end (.inr rfl) ?_
      simp [c9]
    rw [d.1, d.2.1, d.2.2.1, d.2.2.2]
    simp [Vote.av, dv, k1, eq_true k2, c2, c3, c4, c5, c6, c7, c8, c9]
    refine post_end (.inr rfl) ?_
    simp
  simp [Vote.av, dv, k1, k2]
  refine post_end (.inr rfl) ?_
  simp
end Go.Proofs.YtglkfbhjimnboaaDoor.WL

end
section
/-
  CHAPTER 13: EACH MEMBER COUNTS ONCE.
-/
namespace Go.Proofs.YtglkfbhjimnboaaDoor.WL
open Go
set_option maxHeartbeats 8000000
variable {G : Nat → Option AV}
attribute [local irreducible] comp hb sha leafD pairD secD shutD wholeD pubD ofD Dg.one

theorem great13_meets (s : Sig) : Meets Tryd.prog G fn_l13_great [s.avS] [] true (.v (.bool s.greatF)) [] := by
  refine meets_of_go mix k_l13_great ⟨by simp, by simp, by simp⟩ ?_
  unfold Sig.greatF
  by_cases c1 : (200 : Int) < (s.op.length : Nat)
  · have d1 : 200 < s.op.length := by omega
    simp [Sig.avS, c1]
    refine post_end (.inr rfl) ?_
    simp [d1]
  have d1 : ¬ 200 < s.op.length := by omega
  by_cases c2 : (200 : Int) < (s.sh.length : Nat)
  · have d2 : 200 < s.sh.length := by omega
    simp [Sig.avS, c1, c2]
    refine post_end (.inr rfl) ?_
    simp [d2]
  have d2 : ¬ 200 < s.sh.length := by omega
  by_cases c3 : (200 : Int) < (s.path.length : Nat)
  · have d3 : 200 < s.path.length := by omega
    simp [Sig.avS, c1, c2, c3]
    refine post_end (.inr rfl) ?_
    simp [d3]
  have d3 : ¬ 200 < s.path.length := by omega
  simp [Sig.avS, c1, c2, c3]
  refine post_end (.inr rfl) ?_
  simp [d1, d2, d3]

end Go.Proofs.YtglkfbhjimnboaaDoor.WL

end
section
/-
  CHAPTER 13: slices.Sorted(maps.Values(m)) at a map from numbers to numbers: the library's two functions, laid; the iterator's contract.
-/
namespace Go.Proofs.YtglkfbhjimnboaaDoor.WL
open Go Go.Proofs Go.Shelf Go.RowKit Go.Lib

def rhoSrd : Ren := ⟨fun x => if x = 6 then 19 else if x = 8 then 32 else if x = 9 then 33 else if x = 11 then 48 else if x = 13 then 50 else if x = 12 then 49 else if x = 23 then 63 else if x = 24 then 64 else if x = 14 then 54 else if x = 15 then 55 else if x = 16 then 56 else if x = 17 then 57 else if x = 18 then 58 else if x = 19 then 59 else if x = 20 then 60 else if x = 21 then 61 else if x = 22 then 62 else if x = 25 then 65 else if x = 26 then 66 else if x = 27 then 67 else if x = 28 then 68 else if x = 29 then 69 else if x = 30 then 70 else if x = 31 then 71 else x, fun x => if x = 26 then 3 else if x = 28 then 71 else if x = 24 then 68 else if x = 0 then 0 else if x = 3 then 3 else if x = 37 then 107 else if x = 48 then 101 else if x = 50 then 106 else if x = 4 then 4 else if x = 40 then 125 else if x = 39 then 124 else if x = 45 then 67 else if x = 5 then 5 else if x = 9 then 9 else if x = 51 then 133 else if x = 55 then 137 else if x = 57 then 139 else if x = 58 then 140 else if x = 33 then 92 else x, fun x => x⟩
theorem laySrd : SlLaysZI.n6 Tryd.prog rhoSrd where
  mixed := mix
  f6 := ⟨Tryd.f19.name, by kernel_rfl, by kernel_rfl⟩
  f8 := ⟨Tryd.f32.name, by kernel_rfl, by kernel_rfl⟩
  f11 := ⟨Tryd.f48.name, by kernel_rfl, by kernel_rfl⟩
  t0 := by kernel_rfl
  a0 := fun w => run_tagg (by kernel_rfl) w
  z0 := fun w => run_tsz (by kernel_rfl) w
  v0 := fun _ => by kernel_rfl
  t24 := by kernel_rfl
  a24 := fun w => run_tagg (by kernel_rfl) w
  z24 := fun w => run_tsz (by kernel_rfl) w
  v24 := fun _ => by kernel_rfl
  t26 := by kernel_rfl
  a26 := fun w => run_tagg (by kernel_rfl) w
  z26 := fun w => run_tsz (by kernel_rfl) w
  v26 := fun _ => by kernel_rfl
  t28 := by kernel_rfl
  a28 := fun w => run_tagg (by kernel_rfl) w
  z28 := fun w => run_tsz (by kernel_rfl) w
  v28 := fun _ => by kernel_rfl
  i26 := by kernel_rfl
def rhoSrt : Ren := ⟨fun x => if x = 5 then 33 else if x = 8 then 50 else if x = 7 then 49 else if x = 19 then 63 else if x = 20 then 64 else if x = 10 then 54 else if x = 11 then 55 else if x = 12 then 56 else if x = 13 then 57 else if x = 14 then 58 else if x = 15 then 59 else if x = 16 then 60 else if x = 17 then 61 else if x = 18 then 62 else if x = 30 then 65 else if x = 31 then 66 else if x = 32 then 67 else if x = 33 then 68 else if x = 34 then 69 else if x = 35 then 70 else if x = 40 then 71 else x, fun x => if x = 23 then 68 else if x = 25 then 3 else if x = 3 then 3 else if x = 32 then 107 else if x = 22 then 68 else if x = 0 then 0 else if x = 44 then 101 else if x = 46 then 106 else if x = 4 then 4 else if x = 36 then 125 else if x = 35 then 124 else if x = 41 then 67 else if x = 5 then 5 else if x = 9 then 9 else if x = 53 then 133 else if x = 57 then 137 else if x = 63 then 139 else if x = 64 then 140 else x, fun x => x⟩
theorem laySrt : SlLaysM.n5 Tryd.prog rhoSrt where
  mixed := mix
  f5 := ⟨Tryd.f33.name, by kernel_rfl, by kernel_rfl⟩
  f7 := ⟨Tryd.f49.name, by kernel_rfl, by kernel_rfl⟩
  f8 := by kernel_rfl
  f10 := ⟨Tryd.f54.name, by kernel_rfl, by kernel_rfl⟩
  f11 := ⟨Tryd.f55.name, by kernel_rfl, by kernel_rfl⟩
  f12 := ⟨Tryd.f56.name, by kernel_rfl, by kernel_rfl⟩
  f13 := ⟨Tryd.f57.name, by kernel_rfl, by kernel_rfl⟩
  f14 := ⟨Tryd.f58.name, by kernel_rfl, by kernel_rfl⟩
  f15 := ⟨Tryd.f59.name, by kernel_rfl, by kernel_rfl⟩
  f16 := ⟨Tryd.f60.name, by kernel_rfl, by kernel_rfl⟩
  f17 := ⟨Tryd.f61.name, by kernel_rfl, by kernel_rfl⟩
  f18 := ⟨Tryd.f62.name, by kernel_rfl, by kernel_rfl⟩
  f19 := by kernel_rfl
  f20 := by kernel_rfl
  f30 := ⟨Tryd.f65.name, by kernel_rfl, by kernel_rfl⟩
  f31 := by kernel_rfl
  f32 := by kernel_rfl
  f33 := ⟨Tryd.f68.name, by kernel_rfl, by kernel_rfl⟩
  f34 := ⟨Tryd.f69.name, by kernel_rfl, by kernel_rfl⟩
  f35 := ⟨Tryd.f70.name, by kernel_rfl, by kernel_rfl⟩
  f40 := ⟨Tryd.f71.name, by kernel_rfl, by kernel_rfl⟩
  t0 := by kernel_rfl
  a0 := fun w => run_tagg (by kernel_rfl) w
  z0 := fun w => run_tsz (by kernel_rfl) w
  v0 := fun _ => by kernel_rfl
  t3 := by kernel_rfl
  a3 := fun w => run_tagg (by kernel_rfl) w
  z3 := fun w => run_tsz (by kernel_rfl) w
  v3 := fun _ => by kernel_rfl
  t4 := by kernel_rfl
  a4 := fun w => run_tagg (by kernel_rfl) w
  z4 := fun w => run_tsz (by kernel_rfl) w
  v4 := fun _ => by kernel_rfl
  t5 := by kernel_rfl
  a5 := fun w => run_tagg (by kernel_rfl) w
  z5 := fun w => run_tsz (by kernel_rfl) w
  v5 := fun _ => by kernel_rfl
  t9 := by kernel_rfl
  a9 := fun w => run_tagg (by kernel_rfl) w
  z9 := fun w => run_tsz (by kernel_rfl) w
  v9 := fun _ => by kernel_rfl
  t22 := by kernel_rfl
  a22 := fun w => run_tagg (by kernel_rfl) w
  z22 := fun w => run_tsz (by kernel_rfl) w
  v22 := fun _ => by kernel_rfl
  t23 := by kernel_rfl
  a23 := fun w => run_tagg (by kernel_rfl) w
  z23 := fun w => run_tsz (by kernel_rfl) w
  v23 := fun _ => by kernel_rfl
  t25 := by kernel_rfl
  a25 := fun w => run_tagg (by kernel_rfl) w
  z25 := fun w => run_tsz (by kernel_rfl) w
  v25 := fun _ => by kernel_rfl
  t32 := by kernel_rfl
  a32 := fun w => run_tagg (by kernel_rfl) w
  z32 := fun w => run_tsz (by kernel_rfl) w
  v32 := fun _ => by kernel_rfl
  t35 := by kernel_rfl
  a35 := fun w => run_tagg (by kernel_rfl) w
  z35 := fun w => run_tsz (by kernel_rfl) w
  v35 := fun _ => by kernel_rfl
  t36 := by kernel_rfl
  a36 := fun w => run_tagg (by kernel_rfl) w
  z36 := fun w => run_tsz (by kernel_rfl) w
  v36 := fun _ => by kernel_rfl
  t41 := by kernel_rfl
  a41 := fun w => run_tagg (by kernel_rfl) w
  z41 := fun w => run_tsz (by kernel_rfl) w
  v41 := fun _ => by kernel_rfl
  t44 := by kernel_rfl
  a44 := fun w => run_tagg (by kernel_rfl) w
  z44 := fun w => run_tsz (by kernel_rfl) w
  v44 := fun _ => by kernel_rfl
  t46 := by kernel_rfl
  a46 := fun w => run_tagg (by kernel_rfl) w
  z46 := fun w => run_tsz (by kernel_rfl) w
  v46 := fun _ => by kernel_rfl
  t53 := by kernel_rfl
  a53 := fun w => run_tagg (by kernel_rfl) w
  z53 := fun w => run_tsz (by kernel_rfl) w
  v53 := fun _ => by kernel_rfl
  t57 := by kernel_rfl
  a57 := fun w => run_tagg (by kernel_rfl) w
  z57 := fun w => run_tsz (by kernel_rfl) w
  v57 := fun _ => by kernel_rfl
  t63 := by kernel_rfl
  a63 := fun w => run_tagg (by kernel_rfl) w
  z63 := fun w => run_tsz (by kernel_rfl) w
  v63 := fun _ => by kernel_rfl
  t64 := by kernel_rfl
  a64 := fun w => run_tagg (by kernel_rfl) w
  z64 := fun w => run_tsz (by kernel_rfl) w
  v64 := fun _ => by kernel_rfl
theorem sort_perm {l l' : List Int} (h : l.Perm l') : l.mergeSort (fun x y => decide (x ≤ y)) = l'.mergeSort (fun x y => decide (x ≤ y)) := by
  have tr : ∀ a b c : Int, decide (a ≤ b) = true → decide (b ≤ c) = true → decide (a ≤ c) = true := fun a b c h1 h2 => by simp only [decide_eq_true_eq] at *; omega
  have to : ∀ a b : Int, (decide (a ≤ b) || decide (b ≤ a)) = true := fun a b => by simp only [Bool.or_eq_true, decide_eq_true_eq]; omega
  refine List.Perm.eq_of_pairwise (le := fun a b => decide (a ≤ b) = true) (fun a b _ _ h1 h2 => ?_) (List.pairwise_mergeSort tr to l) (List.pairwise_mergeSort tr to l') (((List.mergeSort_perm l _).trans h).trans (List.mergeSort_perm l' _).symm)
  simp only [decide_eq_true_eq] at h1 h2
  omega
theorem sorts_ok (m : Nat) : AnyZI.SortsIn Tryd.prog rhoSrd Fence.wide m :=
  ⟨fun blk off cap ss W hH hblk hsz => callsIn_wide.2 (AnyM.slices_Sort_int laySrt blk off cap ss W hH hblk hsz),
   fun p cap W => callsIn_wide.2 (AnyM.slices_Sort_int_none laySrt p cap W)⟩

set_option maxRecDepth 100000 in
set_option maxHeartbeats 2000000 in
/-- The iterator over a map's values, for every loop body that keeps its word. -/
theorem vals1_in (n : Nat) (hn : 1 ≤ n) (l Bm b : Nat) (es : Array MapEntry) (clock : Nat) (hB : Borns es clock) (vi : MapEntry → Int) (hvi : ∀ x ∈ es.toList, x.val = .int .i64 (vi x)) (J : List MapEntry → World → Prop)
    (hY : ∀ pre x W, J pre W → pre.length < es.size → x ∈ es.toList → YieldAt Fence.wide (n - 1) Tryd.prog l #[.int .i64 (vi x)] W fun e W' => e = .returned (.bool true) ∧ J (pre ++ [x]) W' ∧ KeepsWalks W W')
    (W : World) (hJ : AbidesFrom W.heap.size J) (hm : W.cell? ⟨Bm, 0, none⟩ = some (.map (some b))) (hb : W.heap[b]? = some (.map es clock)) (h0 : J [] W) :
    CallsIn Fence.wide n Tryd.prog 34 #[.func (.yield l) #[] #[], .pointer (some ⟨Bm, 0, none⟩)] W fun e W' => (∃ v, e = .returned v) ∧ ∃ vis, vis.Perm es.toList ∧ J vis W' := by
  refine callsIn_of_wp Tryd.func34 rfl trivial ?_ rfl
  simp only [Tryd.ntmps34, List.size_toArray, List.length_cons, List.length_nil, Nat.reduceAdd, Nat.reduceSub, Array.replicate_succ, Array.replicate_zero, List.push_toArray, List.append_toArray, List.nil_append, List.cons_append]
  gi_wp2_with (first
    | (gi_at_range; refine wpListIn_range_raw _ rfl _ _ rfl _ _ Tryd.underlying66 b es clock rfl hb ?_; intro w0 hrg0 hg0 hs0)
    | gi_in)
  go_frame
  gi_loopw [4] (fun _ wr => ∃ vis, WalkAt wr b W.heap.size es clock vis ∧ J vis wr)
    (fun _ wr => es.size - seenLen wr W.heap.size)
  case atStart =>
    exact ⟨[], hrg0, hJ [] W w0 none h0 hg0 (fun r e => by cases e)⟩
  case round =>
    obtain ⟨vis, hrg, hJs⟩ := hrel
    gi_wp2_with (first
      | (gi_at_next; refine wpListIn_next_raw _ rfl _ rfl b W.heap.size es clock vis hB rfl hrg ?_ ?_)
      | gi_in)
    · -- nothing is left
      intro hperm
      gi_wp2
      go_end0
      exact ⟨⟨_, rfl⟩, vis, hperm, hJs⟩
    · -- an entry has come
      intro x w2 hx0 hrg2 hg2 hs2 hen
      have hx : x ∈ es.toList := by simpa using hx0
      have hJ2 : J vis w2 := hJ vis wr w2 (some W.heap.size) hJs hg2 (fun r e => by cases e; exact ⟨Nat.le_refl _, _, hrg.it, rfl⟩)
      have hlt : vis.length < es.size := by
        have := hrg2.len
        simp at this
        omega
      obtain ⟨fn, tmps, assign, body, hy, hR⟩ := hY vis x w2 hJ2 hlt hx
      rw [hvi x hx] at hen
      clear hs2
      gi_wp2
      refine hR.mono ?_
      rintro e W3 ⟨rfl, hJ3, hk3⟩
      gi_wp2
      have hrg3 := hrg2.of_walks hk3
      go_roundw
      case rel => exact ⟨vis ++ [x], hrg3, hJ3⟩
      case measure =>
        rw [hrg3.seenLen, hrg.seenLen]
        simp
        omega

set_option maxHeartbeats 2000000 in
/-- maps.Values: the map is boxed; the function value holds the box. -/
theorem values_in (n : Nat) (mb : Option Nat) (w : World) :
    CallsIn Fence.wide n Tryd.prog 20 #[.map mb] w fun e w' => e = .returned (.func (.func 34) #[] #[.pointer (some ⟨w.heap.size, 0, none⟩)]) ∧ w' = w.alloc (.cells #[.map mb] 66) := by
  refine callsIn_of_wp Tryd.func20 rfl trivial ?_ rfl
  simp only [Tryd.ntmps20, List.size_toArray, List.length_cons, List.length_nil, Nat.reduceAdd, Nat.reduceSub, Array.replicate_succ, Array.replicate_zero, List.push_toArray, List.append_toArray, List.nil_append, List.cons_append]
  gi_wp2
  go_ret
  exact ⟨rfl, rfl⟩

theorem vals_gives (b : Nat) (es : Array MapEntry) (clock : Nat) (hB : Borns es clock) (vi : MapEntry → Int) (hvi : ∀ x ∈ es.toList, x.val = .int .i64 (vi x)) (w : World) (Bm : Nat) (hm : w.cell? ⟨Bm, 0, none⟩ = some (.map (some b))) (hBm : Bm < w.heap.size) (hb : w.heap[b]? = some (.map es clock)) (hbl : b < w.heap.size) (n : Nat) (hn : 1 ≤ n) :
    SeqGives Fence.wide n Tryd.prog 34 #[.pointer (some ⟨Bm, 0, none⟩)] encZ (fun ss : List Int => ∃ vis : List MapEntry, vis.Perm es.toList ∧ ss = vis.map vi) es.size w := by
  intro l J W hW hJ hY h0
  have h := vals1_in n hn l Bm b es clock hB vi hvi (fun vis W => J (vis.map vi) W) (fun pre x W1 h1 h2 _ => by
    have := hY (pre.map vi) (vi x) W1 h1 (by simpa using h2)
    simpa using this) W (fun s W1 W2 row h1 h2 h3 => hJ (s.map vi) W1 W2 row h1 h2 h3) ((hW.cell (p := ⟨Bm, 0, none⟩) hBm).trans hm) ((hW.block b hbl).trans hb) h0
  refine h.mono ?_
  rintro e W' ⟨hv, vis, hp, hj⟩
  exact ⟨hv, _, ⟨vis, hp, rfl⟩, hj⟩

set_option maxHeartbeats 2000000 in
/-- slices.Sorted over a map's values. -/
theorem sorted_in (b : Nat) (es : Array MapEntry) (clock : Nat) (hB : Borns es clock) (vi : MapEntry → Int) (hvi : ∀ x ∈ es.toList, x.val = .int .i64 (vi x)) (w : World) (Bm : Nat) (hm : w.cell? ⟨Bm, 0, none⟩ = some (.map (some b))) (hBm : Bm < w.heap.size) (hb : w.heap[b]? = some (.map es clock)) (hbl : b < w.heap.size) (hsz : es.size ≤ 1000000) :
    Calls Tryd.prog 19 #[.func (.func 34) #[] #[.pointer (some ⟨Bm, 0, none⟩)]] w fun e w' => ∃ (v : Value), e = .returned v ∧
      w'.ownsRow w.heap.size 3 1 v es.size (((es.toList.map vi).mergeSort (fun x y => decide (x ≤ y))).map encZ) ∧ Below w.heap.size w w' := by
  refine (callsIn_wide (n := 6)).1 ?_
  have hseq := vals_gives b es clock hB vi hvi w Bm hm hBm hb hbl 3 (by omega)
  have cS := AnyZI.sorted_in laySrd Fence.wide 6 trivial trivial trivial trivial rfl (by omega) (sorts_ok _) (enters_of Tryd.func33 (by kernel_rfl) rfl) 34 #[.pointer (some ⟨Bm, 0, none⟩)] trivial
    (enters_of Tryd.func34 (by kernel_rfl) rfl) _ es.size (by simp [maxLen]; omega) (by omega) w hseq
  refine cS.mono ?_
  rintro e w' ⟨v, ss, rfl, ⟨vis, hp, rfl⟩, hrow, _, hbel⟩
  refine ⟨v, rfl, ?_, hbel⟩
  have hms : (vis.map vi).mergeSort (fun x y => decide (x ≤ y)) = (es.toList.map vi).mergeSort (fun x y => decide (x ≤ y)) := sort_perm (hp.map vi)
  have hl : (vis.map vi).length = es.size := by rw [List.length_map, hp.length_eq]; simp
  rw [hms, hl] at hrow
  exact hrow
end Go.Proofs.YtglkfbhjimnboaaDoor.WL

end
section
/-
  CHAPTER 13: maps from numbers: entries in the order in which they came.
-/
namespace Go.Proofs.YtglkfbhjimnboaaDoor.WL
open Go
set_option maxHeartbeats 8000000
variable {G : Nat → Option AV}

/-- Entries of a map from numbers to plain values. -/
def numE : Nat → List (Int × Value) → List AV
  | _, [] => []
  | i, p :: ps => entA (.v (.int .i64 p.1)) (.v p.2) (i : Nat) :: numE (i + 1) ps
theorem numE_snoc (p : Int × Value) : ∀ (ps : List (Int × Value)) (i : Nat), numE i ps ++ [entA (.v (.int .i64 p.1)) (.v p.2) ((i + ps.length : Nat) : Int)] = numE i (ps ++ [p])
  | [], i => by simp [numE]
  | w :: ps, i => by
    have := numE_snoc p ps (i + 1)
    simp only [List.cons_append, numE, List.length_cons]
    rw [← this, show i + (ps.length + 1) = i + 1 + ps.length by omega]
@[simp] theorem numE_length : ∀ (ps : List (Int × Value)) (i : Nat), (numE i ps).length = ps.length
  | [], _ => rfl
  | v :: ps, i => by simp [numE, numE_length ps (i + 1)]
theorem numE_get : ∀ (ps : List (Int × Value)) (i j : Nat), (numE i ps)[j]? = (ps[j]?).map fun p => entA (.v (.int .i64 p.1)) (.v p.2) ((i + j : Nat) : Int)
  | [], _, _ => rfl
  | v :: ps, i, 0 => by simp [numE]
  | v :: ps, i, j + 1 => by
    have := numE_get ps (i + 1) j
    simp only [numE, List.getElem?_cons_succ, this]
    congr 1
    funext v
    congr 2
    omega
theorem numE_find (k : Int) : ∀ (ps : List (Int × Value)) (i : Nat), findA (.int .i64) (.v (.int .i64 k)) (numE i ps) = some (ps.findIdx? fun p => decide (p.1 = k))
  | [], _ => rfl
  | p :: ps, i => by
    have hc : cmpA (.int .i64) (.v (.int .i64 k)) (.v (.int .i64 p.1)) = some (decide (p.1 = k)) := by
      simp only [cmpA, and_self, if_true, Option.some.injEq]
      rw [Bool.eq_iff_iff]
      simp only [beq_iff_eq, decide_eq_true_eq]
      exact eq_comm
    simp only [numE, findA_cons, entK_entA, hc, Option.bind_some, numE_find k ps (i + 1), Option.map_some, List.findIdx?_cons]
    cases decide (p.1 = k) <;> simp
@[simp] theorem numE_closed : ∀ (ps : List (Int × Value)) (i : Nat), (∀ p ∈ ps, closed (.v p.2) = true) → closeds (numE i ps) = true
  | [], _, _ => rfl
  | p :: ps, i, h => by
    have h1 := h p List.mem_cons_self
    simp [numE, closeds, h1, numE_closed ps (i + 1) (fun q hq => h q (List.mem_cons_of_mem _ hq))]
theorem boxE_mem : ∀ (vs : List Vote) (i : Nat) (e : AV), e ∈ boxE i vs → ∃ (j : Nat) (h : j < vs.length), e = entA (plcA vs[j].kind vs[j].round vs[j].src) vs[j].av ((i + j : Nat) : Int)
  | [], _, _, h => by cases h
  | v :: vs, i, e, h => by
    simp only [boxE, List.mem_cons] at h
    rcases h with rfl | h
    · exact ⟨0, by simp, by simp⟩
    · obtain ⟨j, hj, rfl⟩ := boxE_mem vs (i + 1) e h
      refine ⟨j + 1, by simpa using hj, ?_⟩
      simp only [List.getElem_cons_succ]
      congr 2
      omega
theorem boxE_in (vs : List Vote) (i j : Nat) (h : j < vs.length) : entA (plcA vs[j].kind vs[j].round vs[j].src) vs[j].av ((i + j : Nat) : Int) ∈ boxE i vs := by
  have h1 := boxE_get vs i j
  rw [List.getElem?_eq_getElem h] at h1
  exact List.mem_of_getElem? h1
theorem boxE_findB : ∀ (vs : List Vote) (i j : Nat) (h : j < vs.length), findB ((i + j : Nat) : Int) (boxE i vs) = some (entA (plcA vs[j].kind vs[j].round vs[j].src) vs[j].av ((i + j : Nat) : Int))
  | v :: vs, i, 0, _ => by simp [boxE, findB_cons]
  | v :: vs, i, j + 1, h => by
    have := boxE_findB vs (i + 1) j (by simpa using h)
    have e : (i + 1 + j : Nat) = i + (j + 1) := by omega
    rw [e] at this
    have hne : ¬ ((i : Nat) : Int) = ((i + (j + 1) : Nat) : Int) := by omega
    simp only [boxE, findB_cons, List.getElem_cons_succ]
    rw [if_neg hne]
    exact this
@[simp] theorem numE_all : ∀ (ps : List (Int × Value)) (i : Nat), (∀ p ∈ ps, AV.size (.v p.2) = 1) → allEnt 1 1 (numE i ps) = true
  | [], _, _ => rfl
  | p :: ps, i, h => by
    have h1 := h p List.mem_cons_self
    simp [numE, h1, numE_all ps (i + 1) (fun q hq => h q (List.mem_cons_of_mem _ hq))]
def tk (ks : List Int) : List (Int × Value) := ks.map fun k => (k, .bool true)
@[simp] theorem tk_len (ks : List Int) : (tk ks).length = ks.length := by simp [tk]
@[simp] theorem tk_closed (ks : List Int) (i : Nat) : closeds (numE i (tk ks)) = true := numE_closed _ _ fun p hp => by
  obtain ⟨k, _, rfl⟩ := List.mem_map.1 hp
  rfl
@[simp] theorem tk_all (ks : List Int) (i : Nat) : allEnt 1 1 (numE i (tk ks)) = true := numE_all _ _ fun p hp => by
  obtain ⟨k, _, rfl⟩ := List.mem_map.1 hp
  rfl
def dom (n : Nat) : List Int := (List.range n).map fun (i : Nat) => (i : Int)
theorem dom_mem {n : Nat} {i : Int} : i ∈ dom n ↔ ∃ j : Nat, j < n ∧ i = (j : Int) := by
  unfold dom
  simp only [List.mem_map, List.mem_range]
  constructor
  · rintro ⟨j, h, rfl⟩; exact ⟨j, h, rfl⟩
  · rintro ⟨j, h, rfl⟩; exact ⟨j, h, rfl⟩
/-- Who voted in a round or a later one. -/
def whoV (vs : List Vote) (r : Int) : List Int := (dom 64).filter fun f => vs.any fun v => decide (v.src = f) && decide (r ≤ v.round)
theorem dom_nodup (n : Nat) : (dom n).Nodup := by
  unfold dom
  exact List.Pairwise.map _ (fun a b h e => h (by omega)) List.nodup_range
theorem whoV_nodup (vs : List Vote) (r : Int) : (whoV vs r).Nodup := (dom_nodup 64).filter _
theorem whoV_mem {vs : List Vote} {r : Int} (hs : ∀ v ∈ vs, 1 ≤ v.src ∧ v.src ≤ 63) {f : Int} : f ∈ whoV vs r ↔ ∃ (j : Nat) (h : j < vs.length), vs[j].src = f ∧ r ≤ vs[j].round := by
  unfold whoV
  simp only [List.mem_filter, List.any_eq_true, Bool.and_eq_true, decide_eq_true_eq]
  constructor
  · rintro ⟨_, v, hv, h1, h2⟩
    obtain ⟨j, hj, rfl⟩ := List.getElem_of_mem hv
    exact ⟨j, hj, h1, h2⟩
  · rintro ⟨j, hj, h1, h2⟩
    have := hs _ (List.getElem_mem hj)
    exact ⟨dom_mem.2 ⟨f.toNat, by omega, by omega⟩, _, List.getElem_mem hj, h1, h2⟩
end Go.Proofs.YtglkfbhjimnboaaDoor.WL

end
