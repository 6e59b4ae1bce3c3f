/- Texts put together: S13c, S13d, S05c, L05a, S14g, L13a, S14i, L13b, T02. -/
import Derived.Test.YtglkfbhjimnboaaDoorWm9
import Derived.Test.YtglkfbhjimnboaaDoorRows
import Derived.ProofKit
import Derived.LaidMore
import Derived.Lib.LaidTab
section
/-
  CHAPTER 13: contracts of a box of votes.
-/
namespace Go.Proofs.YtglkfbhjimnboaaDoor.WL
open Go
set_option maxHeartbeats 8000000
variable {G : Nat → Option AV}

def plcA (k r f : Int) : AV := .node [.v (.int .i64 k), .v (.int .i64 r), .v (.int .i64 f)]
def boxE : Nat → List Vote → List AV
  | _, [] => []
  | i, v :: vs => entA (plcA v.kind v.round v.src) v.av (i : Nat) :: boxE (i + 1) vs
theorem boxE_snoc (v : Vote) : ∀ (vs : List Vote) (i : Nat), boxE i vs ++ [entA (plcA v.kind v.round v.src) v.av ((i + vs.length : Nat) : Int)] = boxE i (vs ++ [v])
  | [], i => by simp [boxE]
  | w :: vs, i => by
    have := boxE_snoc v vs (i + 1)
    simp only [List.cons_append, boxE, List.length_cons]
    rw [← this, show i + (vs.length + 1) = i + 1 + vs.length by omega]
@[simp] theorem boxE_closed : ∀ (vs : List Vote) (i : Nat), closeds (boxE i vs) = true
  | [], _ => rfl
  | v :: vs, i => by simp [boxE, closeds, boxE_closed vs (i + 1), plcA]
theorem closeds_app : ∀ (a b : List AV), closeds (a ++ b) = (closeds a && closeds b)
  | [], _ => rfl
  | x :: a, b => by simp [closeds, closeds_app a b, Bool.and_assoc]
@[simp] theorem boxE_all : ∀ (vs : List Vote) (i : Nat), allEnt 3 41 (boxE i vs) = true
  | [], _ => rfl
  | v :: vs, i => by simp [boxE, boxE_all vs (i + 1), plcA]
@[simp] theorem boxE_length : ∀ (vs : List Vote) (i : Nat), (boxE i vs).length = vs.length
  | [], _ => rfl
  | v :: vs, i => by simp [boxE, boxE_length vs (i + 1)]
theorem boxE_get : ∀ (vs : List Vote) (i j : Nat), (boxE i vs)[j]? = (vs[j]?).map fun v => entA (plcA v.kind v.round v.src) v.av ((i + j : Nat) : Int)
  | [], _, _ => rfl
  | v :: vs, i, 0 => by simp [boxE]
  | v :: vs, i, j + 1 => by
    have := boxE_get vs (i + 1) j
    simp only [boxE, List.getElem?_cons_succ, this]
    congr 1
    funext v
    congr 2
    omega
theorem boxE_find (k r f : Int) : ∀ (vs : List Vote) (i : Nat), findA (.st [.int .i64, .int .i64, .int .i64]) (plcA k r f) (boxE i vs) = some (vs.findIdx? (plc k r f))
  | [], _ => rfl
  | v :: vs, i => by
    have hc : cmpA (.st [.int .i64, .int .i64, .int .i64]) (plcA k r f) (plcA v.kind v.round v.src) = some (plc k r f v) := by
      simp only [plcA, cmpA, cmpL, and_self, if_true, Option.bind_some, Option.map_some, Bool.and_true, Option.some.injEq, plc]
      rw [Bool.eq_iff_iff]
      simp only [Bool.and_eq_true, beq_iff_eq, decide_eq_true_eq]
      constructor
      · rintro ⟨rfl, rfl, rfl⟩; exact ⟨⟨rfl, rfl⟩, rfl⟩
      · rintro ⟨⟨rfl, rfl⟩, rfl⟩; exact ⟨rfl, rfl, rfl⟩
    simp only [boxE, findA_cons, entK_entA, hc, Option.bind_some, boxE_find k r f vs (i + 1), Option.map_some, List.findIdx?_cons]
    cases plc k r f v <;> simp
theorem find_idx (vs : List Vote) (k r f : Int) : findP vs k r f = (vs.findIdx? (plc k r f)).bind fun i => vs[i]? := by
  unfold findP
  induction vs with
  | nil => rfl
  | cons v vs ih =>
    rw [List.findIdx?_cons, List.find?_cons]
    cases hp : plc k r f v with
    | true => simp
    | false =>
      simp only [Bool.false_eq_true, if_false]
      rw [ih]
      cases List.findIdx? (plc k r f) vs <;> simp
/-- A box's memory. -/
def boxM (g : Nat) (vs : List Vote) : List (Nat × Loc) := [(1000, .var g (.node [.oref 1001 g true])), (1001, .ob g (.map true 3 true 41) (.node [.node (boxE 0 vs), .v (.int .i64 (vs.length : Nat))]))]

theorem newBox_meets : Meets Tryd.prog G fn_vote_NewBox [] [] true (.ptr 1000 1 0) (boxM 1 []) := by
  refine meets_of_go mix k_vote_NewBox ⟨by simp [boxM, boxE], by simp [boxM], by simp [boxM]⟩ ?_
  simp
  refine post_end (.inr rfl) ?_
  simp [boxM, boxE]
/-! Parts of a vote. -/
@[simp] theorem vsub_kind (v : Vote) : sub false 1 v.av 0 = some (.v (.int .i64 v.kind)) := by simp [Vote.av]
@[simp] theorem vsub_epoch (v : Vote) : sub false 1 v.av 1 = some (.v (.int .i64 v.epoch)) := by simp [Vote.av]
@[simp] theorem vsub_height (v : Vote) : sub false 1 v.av 2 = some (.v (.int .i64 v.height)) := by simp [Vote.av]
@[simp] theorem vsub_round (v : Vote) : sub false 1 v.av 3 = some (.v (.int .i64 v.round)) := by simp [Vote.av]
@[simp] theorem vsub_dg (v : Vote) : sub true 32 v.av 4 = some (dv v.dg) := by simp [Vote.av]
@[simp] theorem vsub_src (v : Vote) : sub false 1 v.av 36 = some (.v (.int .i64 v.src)) := by simp [Vote.av]
@[simp] theorem vsub_sig (v : Vote) : sub true 4 v.av 37 = some v.sig.avS := by simp [Vote.av, Sig.avS]
theorem plc_cmp (k r f : Int) : cmpA (.st [.int .i64, .int .i64, .int .i64]) (.node [.v (.int .i64 k), .v (.int .i64 r), .v (.int .i64 f)]) (.node [.v (.int .i64 k), .v (.int .i64 r), .v (.int .i64 f)]) = some true := by simp [cmpA, cmpL]

theorem add_old (vs : List Vote) (v : Vote) (h : (findP vs v.kind v.round v.src).isSome = true) :
    Meets Tryd.prog G fn_vote_Box_Add [.ptr 1000 0 0, v.av] (boxM 0 vs) false (.v (.bool false)) (boxM 0 vs) := by
  refine meets_of_go mix k_vote_Box_Add ⟨by simp [boxM, plcA], by simp, by simp [boxM]⟩ ?_
  obtain ⟨x, hx⟩ := Option.isSome_iff_exists.1 h
  rw [find_idx] at hx
  obtain ⟨i, hi, hxi⟩ := Option.bind_eq_some_iff.1 hx
  have hfa := boxE_find v.kind v.round v.src vs 0
  rw [hi] at hfa
  have hge := boxE_get vs 0 i
  rw [hxi] at hge
  have hcc := plc_cmp v.kind v.round v.src
  unfold plcA at hfa
  simp only [Option.map_some] at hge
  simp [boxM, hcc, hfa, hge]
  refine post_end (.inr rfl) ?_
  simp
theorem add_new (vs : List Vote) (v : Vote) (h : findP vs v.kind v.round v.src = none) (hn : vs.length ≤ 1000) :
    Meets Tryd.prog G fn_vote_Box_Add [.ptr 1000 0 0, v.av] (boxM 0 vs) false (.v (.bool true)) (boxM 0 (vs ++ [v])) := by
  have hs := boxE_snoc v vs 0
  rw [Nat.zero_add] at hs
  unfold boxM
  rw [← hs]
  have hcl : closeds (boxE 0 vs ++ [entA (plcA v.kind v.round v.src) v.av (vs.length : Nat)]) = true := by
    rw [closeds_app, boxE_closed]; simp [closeds, plcA]
  refine meets_of_go mix k_vote_Box_Add ⟨by simp [plcA]; exact goods_closeds (by simpa [plcA] using hcl), by simp, by simp⟩ ?_
  have hi : vs.findIdx? (plc v.kind v.round v.src) = none := by
    unfold findP at h
    rw [List.findIdx?_eq_none_iff]
    intro x hx
    have := List.find?_eq_none.1 h x hx
    simpa using this
  have hfa := boxE_find v.kind v.round v.src vs 0
  rw [hi] at hfa
  have hcc := plc_cmp v.kind v.round v.src
  unfold plcA at hfa hcl ⊢
  simp [hcc, hfa]
  refine post_end (.inr rfl) ?_
  simp [hcl]
end Go.Proofs.YtglkfbhjimnboaaDoor.WL

end
section
/-
  CHAPTER 13: counting votes.
-/

namespace Go.Proofs.YtglkfbhjimnboaaDoor.WL
open Go
set_option maxHeartbeats 8000000
variable {G : Nat → Option AV}

theorem add_meets (vs : List Vote) (v : Vote) (hn : vs.length ≤ 1000) : Meets Tryd.prog G fn_vote_Box_Add [.ptr 1000 0 0, v.av] (boxM 0 vs) false (.v (.bool (!(findP vs v.kind v.round v.src).isSome))) (boxM 0 (addB vs v)) := by
  cases h : findP vs v.kind v.round v.src with
  | none =>
    have e : addB vs v = vs ++ [v] := by simp [addB, h]
    rw [e]
    exact add_new vs v h hn
  | some x =>
    have e : addB vs v = vs := by simp [addB, h]
    rw [e]
    exact add_old vs v (by simp [h])

theorem for_meets (vs : List Vote) (k r : Int) (d : Dg) (hn : vs.length ≤ 1000) : Meets Tryd.prog G fn_vote_Box_For [.ptr 1000 0 0, .v (.int .i64 k), .v (.int .i64 r), dv d] (boxM 0 vs) false (.sl 41 (Votes (forTo vs k r d 63))) (boxM 0 vs) := by
  have hF : ∀ i, forTo vs k r d (i + 1) = forTo vs k r d i ++ (pickB vs k r d ((i : Int) + 1)).toList := forTo_succ vs k r d
  have hF0 : forTo vs k r d 0 = [] := rfl
  have hFl : ∀ i, (forTo vs k r d i).length ≤ i := forTo_len vs k r d
  obtain ⟨F, hFe⟩ : ∃ F : Nat → List Vote, ∀ i, F i = forTo vs k r d i := ⟨_, fun _ => rfl⟩
  simp only [← hFe] at hF hF0 hFl
  rw [← hFe]
  refine meets_of_go mix k_vote_Box_For ⟨by simp [boxM], by simp, by simp [boxM]⟩ ?_
  simp [boxM]
  refine go_up 63 (fun j (_ : Unit) => True) (fun j _ c => ⟨[(0, .ptr 1000 0 0), (1, .v (.int .i64 k)), (2, .v (.int .i64 r)), (7, .ptr 7 c 0), (9, .row 9 41 c 0 (F j).length), (10, .v (.int .i64 ((j : Int) + 1)))],
    [(7, .var c (dv d)), (9, .rows c 41 (Votes (F j)))] ++ boxM 0 vs, c + 1⟩) () _ (Weak.re1 1000 (by simp [hF0, boxM])) trivial ?_ ?_
  · intro j _ c hj _
    have hlj := hFl j
    have hFj := hF j
    have hfa := boxE_find k r ((j : Int) + 1) vs 0
    have hidx := find_idx vs k r ((j : Int) + 1)
    unfold plcA at hfa
    have hcc := plc_cmp k r ((j : Int) + 1)
    have h1 : (j : Int) + 1 ≤ 63 := by omega
    have hw : IntKind.i64.wrap ((j : Int) + 1 + 1) = (j : Int) + 1 + 1 := w64_id (by omega)
    cases hq : vs.findIdx? (plc k r ((j : Int) + 1)) with
    | none =>
      rw [hq] at hfa hidx
      have hp : pickB vs k r d ((j : Int) + 1) = none := by simp [pickB, hidx]
      rw [hp] at hFj
      simp [boxM, hfa, hcc, h1, hw]
      exact ⟨(), _, Weak.re1 1000 (by simp [hFj, boxM]), trivial⟩
    | some i =>
      obtain ⟨hlt, -⟩ := List.findIdx?_eq_some_iff_getElem.1 hq
      rw [hq] at hfa hidx
      have hge := boxE_get vs 0 i
      rw [List.getElem?_eq_getElem hlt] at hge
      simp only [Option.bind_some, List.getElem?_eq_getElem hlt] at hidx
      simp only [Option.map_some] at hge
      generalize vs[i] = v at *
      have hS := Votes_snoc (F j) v
      have f1 : fitsB ((F j).length + 1) 152 := fits (by omega) (by omega)
      by_cases hd : v.dg = d
      · have hp : pickB vs k r d ((j : Int) + 1) = some v := by simp [pickB, hidx, hd]
        rw [hp] at hFj
        simp [boxM, hfa, hge, hcc, h1, hw, hd, f1, hS]
        exact ⟨(), _, Weak.re1 1000 (by simp [hFj, boxM]), trivial⟩
      · have hp : pickB vs k r d ((j : Int) + 1) = none := by simp [pickB, hidx, hd]
        rw [hp] at hFj
        simp [boxM, hfa, hge, hcc, h1, hw, hd]
        exact ⟨(), _, Weak.re1 1000 (by simp [hFj, boxM]), trivial⟩
  · intro _ c _
    have ht : List.take (F 63).length (F 63) = F 63 := List.take_length
    simp [boxM]
    refine post_end (.inr rfl) ?_
    simp [ht, boxM]
theorem count_meets (vs : List Vote) (k r : Int) (d : Dg) (hn : vs.length ≤ 1000) : Meets Tryd.prog G fn_vote_Box_Count [.ptr 1000 0 0, .v (.int .i64 k), .v (.int .i64 r), dv d] (boxM 0 vs) false (.v (.int .i64 ((forTo vs k r d 63).length : Nat))) (boxM 0 vs) := by
  refine meets_of_go mix k_vote_Box_Count ⟨by simp [boxM], by simp, by simp [boxM]⟩ ?_
  have m1 := for_meets (G := G) vs k r d hn
  generalize forTo vs k r d 63 = F at *
  simp [boxM]
  refine call_intro m1 ?_ ?_
  · simp [boxM]
  simp [boxM]
  refine post_end (.inr rfl) ?_
  simp
end Go.Proofs.YtglkfbhjimnboaaDoor.WL

end
section
/-
  CHAPTER 05: contracts of the reference.
-/
namespace Go.Proofs.YtglkfbhjimnboaaDoor.WL
open Go
set_option maxHeartbeats 4000000
attribute [local irreducible] comp hb sha leafD pairD secD shutD wholeD pubD ofD

def Sig.same (a b : Sig) : Bool := decide (a.leaf = b.leaf) && (decide (a.op = b.op) && decide (a.sh = b.sh)) && decide (a.path = b.path)
end Go.Proofs.YtglkfbhjimnboaaDoor.WL

end
section
/-
  CHAPTER 05: walks of laws.
-/
namespace Go.Proofs.YtglkfbhjimnboaaDoor.WL
open Go
set_option maxHeartbeats 4000000
attribute [local irreducible] comp hb sha leafD pairD secD shutD wholeD pubD ofD

def Dg.one (b : UInt8) : Dg := ⟨b :: zeros 31, by simp⟩
theorem one_set (b : UInt8) : AV.arr 1 ((B (zeros 32)).set 0 (bv b)) = dv (Dg.one b) := (rfl)
theorem bv1 : AV.v (.int .u8 1) = bv 1 := (rfl)
attribute [local irreducible] Dg.one

def Sig.greatF (s : Sig) : Bool := decide (200 < s.op.length) || decide (200 < s.sh.length) || decide (200 < s.path.length)
end Go.Proofs.YtglkfbhjimnboaaDoor.WL

end
section
/-
  CHAPTER 08: the reference.
-/
namespace Go.Proofs.YtglkfbhjimnboaaDoor.WL
open Go
set_option maxHeartbeats 8000000
variable {G : Nat → Option AV}

theorem idxOf_hit {ms : List Mem} {id : Int} {k : Nat} (hk : k < ms.length) (h : (ms[k]).id = id) (hm : ∀ j (hj : j < ms.length), j < k → (ms[j]).id ≠ id) : idxOf ms id = (k : Int) := by
  have := Lib.idxBy_hit (fun _ y : Mem => decide (y.id = id)) ms ms.length k default hk (Nat.le_refl _) (decide_eq_true (by simp [hk, h])) (fun j hj => decide_eq_false (by simpa [show j < ms.length by omega] using hm j (by omega) hj))
  rwa [List.take_length] at this
attribute [local irreducible] sha idxOf faults quorum

end Go.Proofs.YtglkfbhjimnboaaDoor.WL

end
section
/-
  CHAPTER 13: the laws' first question.
-/
namespace Go.Proofs.YtglkfbhjimnboaaDoor.WL
open Go
set_option maxHeartbeats 8000000
variable {G : Nat → Option AV}

theorem ksign_frz13 (seed : Dg) (h : Int) (ls : List Dg) (n : Nat) (d : Dg) (hn : n < ls.length) (hl : ls.length ≤ 1000000) (N : Nat) (hN : N = 32) :
    Meets Tryd.prog Gt fn_keys_Tree_Sign [.ptr 1000 0 0, .v (.int .i64 (n : Nat)), dv d] (trM 0 seed h ls) false (.tup [(signK seed ls n d N).avS, .v (.int .i64 0)]) (trM 1 seed h ls) := by
  refine (ksign_meets seed h ls n d hn hl N hN).freeze ⟨by simp [trM], by simp [trM], by simp [trM]⟩ ?_
  generalize signK seed ls n d N = s at *
  simp [trM, Sig.avR, Sig.avS, Sig.rows]
attribute [local irreducible] comp hb sha leafD pairD secD shutD wholeD pubD ofD Dg.one

def mem13 (R : Dg) : Mem := ⟨1, R, 0⟩
def conf13 (R : Dg) : Conf := ⟨0, [mem13 R]⟩
def vote13 (s : Sig) : Vote := ⟨1, 0, 1, 0, Dg.zero, 1, s⟩
theorem right13 (R : Dg) (s : Sig) (h : checkK R 0 (vote13 Sig.zero).signs s = true) : rightV (conf13 R) (vote13 s) = true := by
  have hid : idxOf (conf13 R).ms 1 = ((0 : Nat) : Int) := idxOf_hit (k := 0) (by simp [conf13]) (by simp [conf13, mem13]) (by intro j _ hj; omega)
  rw [rightV_some (k := 0) (by simp [conf13]) hid]
  have hs : (vote13 s).signs = (vote13 Sig.zero).signs := rfl
  have hg : (vote13 s).good = true := by simp [vote13, Vote.good]
  rw [hs, hg]
  show (true && decide ((0 : Int) = 0) && checkK R 0 (vote13 Sig.zero).signs s) = true
  rw [h]
  rfl
theorem for13 (s : Sig) : ∀ i : Nat, forTo [vote13 s] 1 0 Dg.zero (i + 1) = [vote13 s]
  | 0 => by simp [forTo, pickB, findP, plc, vote13]
  | i + 1 => by
    rw [forTo_succ, for13 s i]
    have : pickB [vote13 s] 1 0 Dg.zero (((i + 1 : Nat) : Int) + 1) = none := by
      have h : ¬ (1 : Int) = ((i + 1 : Nat) : Int) + 1 := by omega
      simp only [pickB, findP, plc, vote13, List.find?_cons, h, decide_false, Bool.and_false, List.find?_nil, Option.bind_none]
    rw [this]
    rfl
theorem alive13_meets : Meets Tryd.prog Gt fn_l13_alive [] [] true (.v (.bool true)) [] := by
  refine meets_of_go mix k_l13_alive ⟨by simp, by simp, by simp⟩ ?_
  have o1 := one_set 1
  generalize Dg.one 1 = D1 at *
  have m1 := knew_meets D1 0 (by omega) 32 rfl
  have hl := leavesD_length D1 32 (2 ^ 0)
  have hc := sign_checks D1 0 0 (vote13 Sig.zero).signs (by omega) (by decide)
  generalize leavesD D1 32 (2 ^ 0) = l at *
  have hl1 : l.length = 1 := hl
  have m2 := kkey_meets D1 ((0 : Nat) : Int) l (by omega)
  have m5 := ksign_frz13 D1 ((0 : Nat) : Int) l 0 (vote13 Sig.zero).signs (by omega) (by omega) 32 rfl
  have hS0 : W64 (signK D1 l 0 (vote13 Sig.zero).signs 32).leaf := by simp [signK, W64]
  generalize signK D1 l 0 (vote13 Sig.zero).signs 32 = S at *
  generalize rootD l = R at *
  have hk := right13 R S hc
  have m4 := vsigns_meets (vote13 Sig.zero)
  have m6 := newBox_meets (G := Gt)
  have m7 := vright_meets (conf13 R) (vote13 S) (by simp [conf13]) (by simp [conf13, mem13, W64]) hS0
  rw [hk] at m7
  have m8 := add_new (G := Gt) [] (vote13 S) rfl (by simp)
  have m9 := add_old (G := Gt) [vote13 S] (vote13 S) (by simp [findP, plc_self])
  have m10 := count_meets (G := Gt) [vote13 S] 1 0 Dg.zero (by simp)
  rw [for13 S 62] at m10
  simp only [List.nil_append] at m8
  clear hk hc
  generalize (vote13 Sig.zero).signs = sg at *
  simp only [Int.natCast_zero] at m1 m2 m5
  simp [bv1, o1]
  refine call_intro m1 ?_ ?_
  · simp [trM1]
  simp [trM1, hl1, o1]
  refine call_intro m4 ?_ ?_
  · simp [vote13, Vote.av, Sig.zero, Sig.avS, dv]
  simp [dv]
  have hv : AV.node [.v (.int .i64 1), .v (.int .i64 0), .v (.int .i64 1), .v (.int .i64 0), .arr 1 (B (zeros 32)), .v (.int .i64 1), S.avS] = (vote13 S).av := rfl
  refine call_intro m5 ?_ ?_
  · simp [trM, hl1, dv]
  simp [trM, hl1, dv, hv]
  refine call_intro m6 ?_ ?_
  · simp [boxM]
  simp [boxM]
  refine call_intro m2 ?_ ?_
  · simp [trM, hl1]
  simp [trM, hl1]
  refine call_intro m7 ?_ ?_
  · simp [conf13, mem13, Conf.av, Mems, Mem.av, dv]
  simp
  refine call_intro m8 ?_ ?_
  · simp [boxM]
  simp [boxM]
  refine call_intro m9 ?_ ?_
  · simp [boxM]
  simp [boxM]
  refine call_intro m10 ?_ ?_
  · simp [boxM, dv]
  simp [boxM]
  refine post_end (.inr rfl) ?_
  simp
end Go.Proofs.YtglkfbhjimnboaaDoor.WL

end
section
/-
  CHAPTER 13: the reference: whether a vote can be.
-/
namespace Go.Proofs.YtglkfbhjimnboaaDoor.WL
open Go
set_option maxHeartbeats 8000000
variable {G : Nat → Option AV}

theorem rvgood_meets (v : Vote) : Meets Tryd.prog G fn_r13_Good [v.av] [] true (.v (.bool v.good)) [] := by
  refine meets_of_go mix k_r13_Good ⟨by simp, by simp, by simp⟩ ?_
  have e : v.good = ((decide (v.kind = 1) || decide (v.kind = 2)) && decide (0 ≤ v.epoch) && decide (v.epoch ≤ 1073741824) && decide (1 ≤ v.height) && decide (v.height ≤ 1024) && decide (0 ≤ v.round) && decide (v.round ≤ 1024) && decide (1 ≤ v.src) && decide (v.src ≤ 63)) := by
    have e1 : (decide (1 ≤ v.kind) && decide (v.kind ≤ 2)) = (decide (v.kind = 1) || decide (v.kind = 2)) := by
      rw [Bool.eq_iff_iff]
      simp only [Bool.and_eq_true, Bool.or_eq_true, decide_eq_true_eq]
      omega
    rw [← e1]
    rfl
  rw [e]
  by_cases k1 : v.kind = 1
  case pos =>
    by_cases c2 : v.epoch < 0
    case pos =>
      have d : ¬ 0 ≤ v.epoch := by omega
      simp [Vote.av, dv, eq_true k1, c2]
      refine post_end (.inr rfl) ?_
      simp [d]
    by_cases c3 : 1073741824 < v.epoch
    case pos =>
      have d : ¬ v.epoch ≤ 1073741824 := by omega
      simp [Vote.av, dv, eq_true k1, c2, c3]
      refine post_end (.inr rfl) ?_
      simp [d]
    by_cases c4 : v.height < 1
    case pos =>
      have d : ¬ 1 ≤ v.height := by omega
      simp [Vote.av, dv, eq_true k1, c2, c3, c4]
      refine post_end (.inr rfl) ?_
      simp [d]
    by_cases c5 : 1024 < v.height
    case pos =>
      have d : ¬ v.height ≤ 1024 := by omega
      simp [Vote.av, dv, eq_true k1, c2, c3, c4, c5]
      refine post_end (.inr rfl) ?_
      simp [d]
    have d : decide (0 ≤ v.epoch) = true ∧ decide (v.epoch ≤ 1073741824) = true ∧ decide (1 ≤ v.height) = true ∧ decide (v.height ≤ 1024) = true := by simp only [decide_eq_true_eq]; omega
    by_cases c6 : 0 ≤ v.round
    case neg =>
      simp [Vote.av, dv, eq_true k1, c2, c3, c4, c5, c6]
      refine post_end (.inr rfl) ?_
      simp [c6]
    by_cases c7 : v.round ≤ 1024
    case neg =>
      simp [Vote.av, dv, eq_true k1, c2, c3, c4, c5, c6, c7]
      refine post_end (.inr rfl) ?_
      simp [c7]
    by_cases c8 : 1 ≤ v.src
    case neg =>
      simp [Vote.av, dv, eq_true k1, c2, c3, c4, c5, c6, c7, c8]
      refine post_end (.inr rfl) ?_
      simp [c8]
    by_cases c9 : v.src ≤ 63
    case neg =>
      simp [Vote.av, dv, eq_true k1, c2, c3, c4, c5, c6, c7, c8, c9]
      refine post_end (.inr rfl) ?_
      simp [c9]
    rw [d.1, d.2.1, d.2.2.1, d.2.2.2]
    simp [Vote.av, dv, eq_true k1, c2, c3, c4, c5, c6, c7, c8, c9]
    refine post_end (.inr rfl) ?_
    simp
  by_cases k2 : v.kind = 2
  case pos =>
    by_cases c2 : v.epoch < 0
    case pos =>
      have d : ¬ 0 ≤ v.epoch := by omega
      simp [Vote.av, dv, k1, eq_true k2, c2]
      refine post_end (.inr rfl) ?_
      simp [d]
    by_cases c3 : 1073741824 < v.epoch
    case pos =>
      have d : ¬ v.epoch ≤ 1073741824 := by omega
      simp [Vote.av, dv, k1, eq_true k2, c2, c3]
      refine post_end (.inr rfl) ?_
      simp [d]
    by_cases c4 : v.height < 1
    case pos =>
      have d : ¬ 1 ≤ v.height := by omega
      simp [Vote.av, dv, k1, eq_true k2, c2, c3, c4]
      refine post_end (.inr rfl) ?_
      simp [d]
    by_cases c5 : 1024 < v.height
    case pos =>
      have d : ¬ v.height ≤ 1024 := by omega
      simp [Vote.av, dv, k1, eq_true k2, c2, c3, c4, c5]
      refine post_end (.inr rfl) ?_
      simp [d]
    have d : decide (0 ≤ v.epoch) = true ∧ decide (v.epoch ≤ 1073741824) = true ∧ decide (1 ≤ v.height) = true ∧ decide (v.height ≤ 1024) = true := by simp only [decide_eq_true_eq]; omega
    by_cases c6 : 0 ≤ v.round
    case neg =>
      simp [Vote.av, dv, k1, eq_true k2, c2, c3, c4, c5, c6]
      refine post_end (.inr rfl) ?_
      simp [c6]
    by_cases c7 : v.round ≤ 1024
    case neg =>
      simp [Vote.av, dv, k1, eq_true k2, c2, c3, c4, c5, c6, c7]
      refine post_end (.inr rfl) ?_
      simp [c7]
    by_cases c8 : 1 ≤ v.src
    case neg =>
      simp [Vote.av, dv, k1, eq_true k2, c2, c3, c4, c5, c6, c7, c8]
      refine post_end (.inr rfl) ?_
      simp [c8]
    by_cases c9 : v.src ≤ 63
    case neg =>
      simp [Vote.av, dv, k1, eq_true k2, c2, c3, c4, c5, c6, c7, c8, c9]
      refine post_end (.inr rfl) ?_
      simp [c9]
    rw [d.1, d.2.1, d.2.2.1, d.2.2.2]
    simp [Vote.av, dv, k1, eq_true k2, c2, c3, c4, c5, c6, c7, c8, c9]
    refine post_end (.inr rfl) ?_
    simp
  simp [Vote.av, dv, k1, k2]
  refine post_end (.inr rfl) ?_
  simp
end Go.Proofs.YtglkfbhjimnboaaDoor.WL

end
section
/-
  CHAPTER 13: EACH MEMBER COUNTS ONCE.
-/
namespace Go.Proofs.YtglkfbhjimnboaaDoor.WL
open Go
set_option maxHeartbeats 8000000
variable {G : Nat → Option AV}
attribute [local irreducible] comp hb sha leafD pairD secD shutD wholeD pubD ofD Dg.one

theorem great13_meets (s : Sig) : Meets Tryd.prog G fn_l13_great [s.avS] [] true (.v (.bool s.greatF)) [] := by
  refine meets_of_go mix k_l13_great ⟨by simp, by simp, by simp⟩ ?_
  unfold Sig.greatF
  by_cases c1 : (200 : Int) < (s.op.length : Nat)
  · have d1 : 200 < s.op.length := by omega
    simp [Sig.avS, c1]
    refine post_end (.inr rfl) ?_
    simp [d1]
  have d1 : ¬ 200 < s.op.length := by omega
  by_cases c2 : (200 : Int) < (s.sh.length : Nat)
  · have d2 : 200 < s.sh.length := by omega
    simp [Sig.avS, c1, c2]
    refine post_end (.inr rfl) ?_
    simp [d2]
  have d2 : ¬ 200 < s.sh.length := by omega
  by_cases c3 : (200 : Int) < (s.path.length : Nat)
  · have d3 : 200 < s.path.length := by omega
    simp [Sig.avS, c1, c2, c3]
    refine post_end (.inr rfl) ?_
    simp [d3]
  have d3 : ¬ 200 < s.path.length := by omega
  simp [Sig.avS, c1, c2, c3]
  refine post_end (.inr rfl) ?_
  simp [d1, d2, d3]

def Bools (bs : List Bool) : List AV := bs.map fun b => .v (.bool b)
@[simp] theorem Bools_length (bs : List Bool) : (Bools bs).length = bs.length := by simp [Bools]
@[simp] theorem Bools_closed (ps : List Bool) : closeds (Bools ps) = true := closeds_all.2 fun a h => by
  obtain ⟨p, _, rfl⟩ := List.mem_map.1 h
  rfl
@[simp] theorem Bools_get (n : Nat) (a : List Bool) : (Bools a)[n]? = (a[n]?).map fun b => .v (.bool b) := by simp [Bools]
@[simp] theorem Bools_getElem (n : Nat) (a : List Bool) (h : n < (Bools a).length) : (Bools a)[n] = .v (.bool (a[n]'(by simpa using h))) := by simp [Bools]
@[simp] theorem Bools_set (n : Nat) (a : List Bool) (b : Bool) : (Bools a).set n (.v (.bool b)) = Bools (a.set n b) := by simp [Bools]
theorem Bools_zero (k r : Int) : rep 64 (AV.v (.bool false)) = Bools (votedB [] k r) := (rfl)
theorem votedTo_zero (k r : Int) : votedTo [] k r 63 = 0 := rfl
theorem walk_VoteOnce (vs : List Vote) (k r : Int) (hn : vs.length ≤ reachBytes) : Meets Tryd.prog Gt fn_l13_VoteOnce [.sl 41 (Votes vs), .v (.int .i64 k), .v (.int .i64 r)] [] true (.v (.bool true)) [] := by
  refine meets_of_go mix k_l13_VoteOnce ⟨by simp, by simp, by simp⟩ ?_
  have m1 := alive13_meets
  by_cases c1 : (60 : Int) < (vs.length : Nat)
  · simp
    refine call_intro m1 ?_ ?_
    · simp
    simp [c1]
    refine post_end (.inr rfl) ?_
    simp
  have d1 : vs.length ≤ 60 := by omega
  have m2 := newBox_meets (G := Gt)
  simp
  refine call_intro m1 ?_ ?_
  · simp
  simp [c1]
  refine call_intro m2 ?_ ?_
  · simp [boxM]
  simp [boxM]
  refine go_up vs.length (fun j (a : List Vote × List Dg) => a.1.length ≤ j ∧ a.2.length ≤ j ∧ a.2.Nodup ∧ ∀ v ∈ a.1, v.dg ∈ a.2)
    (fun j a c => ⟨[(1, .v (.int .i64 k)), (2, .v (.int .i64 r)), (7, .ptr 7 c 0), (8, .ptr 8 c 0), (9, .v (.int .i64 ((votedTo a.1 k r 63 : Nat) : Int))), (10, .row 10 32 c 0 a.2.length), (25, .sl 41 (Votes vs)), (26, .v (.int .i64 (vs.length : Nat))), (27, .v (.int .i64 (j : Nat)))],
      [(7, .var c (.node [.oref 1001 c true])), (1001, .ob c (.map true 3 true 41) (.node [.node (boxE 0 a.1), .v (.int .i64 (a.1.length : Nat))])), (8, .var c (.arr 1 (Bools (votedB a.1 k r)))), (10, .rows c 32 (Dgs a.2))], c + 1⟩) ([], []) _ (Weak.re (by simp [boxE, Bools_zero k r, votedTo_zero])) (by simp) ?_ ?_
  · rintro j ⟨B, D⟩ c hj ⟨i1, i2, i3, i4⟩
    simp only at i1 i2 i3 i4
    have hw : IntKind.i64.wrap ((j : Int) + 1) = ((j + 1 : Nat) : Int) := w64_succ (by omega)
    obtain ⟨v, hv⟩ : ∃ v, vs[j] = v := ⟨_, rfl⟩
    have m3 := rvgood_meets (G := Gt) v
    have m4 := great13_meets (G := Gt) v.sig
    have m5 := add_meets (G := Gt) B v (by omega)
    cases hg : v.good with
    | false =>
      rw [hg] at m3
      simp [hj, hv]
      refine call_intro m3 ?_ ?_
      · simp
      simp [hg]
      refine post_end (.inr rfl) ?_
      simp
    | true =>
    rw [hg] at m3
    cases hgr : v.sig.greatF with
    | true =>
      rw [hgr] at m4
      simp [hj, hv]
      refine call_intro m3 ?_ ?_
      · simp
      simp [hg]
      refine call_intro m4 ?_ ?_
      · simp
      simp [hgr]
      refine post_end (.inr rfl) ?_
      simp
    | false =>
    rw [hgr] at m4
    have hs0 : 1 ≤ v.src ∧ v.src ≤ 63 := by
      simp only [Vote.good, Bool.and_eq_true, decide_eq_true_eq] at hg
      omega
    have ha1 := addB_len B v
    have ha2 := addD_len D v.dg
    have hinv : (addB B v).length ≤ j + 1 ∧ (addD D v.dg).length ≤ j + 1 ∧ (addD D v.dg).Nodup ∧ ∀ x ∈ addB B v, x.dg ∈ addD D v.dg := by
      refine ⟨by omega, by omega, addD_nodup _ i3, fun x hx => addD_mem ?_⟩
      rcases addB_mem hx with h | rfl
      · exact .inl (i4 x h)
      · exact .inr rfl
    have hft : fitsB (D.length + 1) 32 := fits (by omega) (by omega)
    obtain ⟨F, hFe⟩ : ∃ F : Nat → Bool, ∀ i, F i = decide (v.dg ∉ D.take i) := ⟨_, fun _ => rfl⟩
    have hF0 : F 0 = true := by simp [hFe]
    have hFs : ∀ i (h : i < D.length), F (i + 1) = (F i && !decide (D[i] = v.dg)) := fun i h => by rw [hFe, hFe, fresh_succ D v.dg h]
    have hFn : F D.length = decide (v.dg ∉ D) := by rw [hFe, List.take_length]
    clear hFe
    by_cases hk : v.kind = k
    · subst hk
      by_cases hr : v.round = r
      · subst hr
        have hs1 : ((v.src.toNat : Nat) : Int) = v.src := by omega
        have hs2 : v.src.toNat < 64 := by omega
        have hs3 : v.src < 64 := by omega
        have hs4 : 0 ≤ v.src := by omega
        have hgt := votedB_get B v.kind v.round hs2
        rw [hs1] at hgt
        cases hq : findP B v.kind v.round v.src with
        | some x =>
          have e1 := votedTo_same B v v.kind v.round (fun _ _ => by rw [hq]; rfl) 63
          have e2 := votedB_same B v v.kind v.round (fun _ _ => by rw [hq]; rfl)
          rw [hq] at hgt
          simp only [Option.isSome_some] at hgt
          obtain ⟨_, hge⟩ := List.getElem?_eq_some_iff.1 hgt
          simp [hj, hv]
          refine call_intro m3 ?_ ?_
          · simp
          simp [hg]
          refine call_intro m4 ?_ ?_
          · simp
          simp [hgr, vsub_kind, vsub_round, vsub_src]
          refine call_intro m5 ?_ ?_
          · simp [boxM]
          simp [boxM, hge, hgt, hs2, hs3, hs4, e1, e2]
          refine go_up D.length (fun i (_ : Unit) => True) (fun i _ q => ⟨[(1, .v (.int .i64 v.kind)), (2, .v (.int .i64 v.round)), (7, .ptr 7 q 0), (8, .ptr 8 q 0), (9, .v (.int .i64 ((votedTo (addB B v) v.kind v.round 63 : Nat) : Int))), (10, .row 10 32 q 0 D.length), (12, .ptr 12 q 0), (13, .v (.bool (F i))), (25, .sl 41 (Votes vs)), (26, .v (.int .i64 (vs.length : Nat))), (27, .v (.int .i64 (j : Nat))), (64, .row 10 32 q 0 D.length), (65, .v (.int .i64 (D.length : Nat))), (66, .v (.int .i64 (i : Nat)))],
            [(7, .var q (.node [.oref 1001 q true])), (1001, .ob q (.map true 3 true 41) (.node [.node (boxE 0 (addB B v)), .v (.int .i64 ((addB B v).length : Nat))])), (8, .var q (.arr 1 (Bools (votedB (addB B v) v.kind v.round)))), (10, .rows q 32 (Dgs D)), (12, .var q v.av)], q + 1⟩) () _ (Weak.re (by simp [hF0, hge, hgt, hs2, hs3, hs4, e1, e2])) trivial ?_ ?_
          · intro i _ q hi _
            have hwi : IntKind.i64.wrap ((i : Int) + 1) = ((i + 1 : Nat) : Int) := w64_succ (by omega)
            have hs1 := hFs i hi
            cases hb : F i with
            | false =>
              rw [hb] at hs1
              simp [hi, hb, hwi]
              exact ⟨(), _, Weak.re (by simp [hs1]), trivial⟩
            | true =>
              rw [hb] at hs1
              by_cases he : D[i] = v.dg
              · simp [hi, hb, hwi, he]
                exact ⟨(), _, Weak.re (by simp [hs1, he]), trivial⟩
              · simp [hi, hb, hwi, he]
                exact ⟨(), _, Weak.re (by simp [hs1, he]), trivial⟩
          · intro _ q _
            by_cases hm : v.dg ∈ D
            · have hb : F D.length = false := by rw [hFn]; simp [hm]
              have hA : addD D v.dg = D := if_pos hm
              simp [hb, hw]
              exact ⟨(addB B v, addD D v.dg), _, Weak.re (by simp [hA]), hinv⟩
            · have hb : F D.length = true := by rw [hFn]; simp [hm]
              have hA : addD D v.dg = D ++ [v.dg] := if_neg hm
              simp [hb, hw, hft, Dgs_snoc]
              exact ⟨(addB B v, addD D v.dg), _, Weak.re (by simp [hA]), hinv⟩

        | none =>
          have e1 := votedTo_add B v hq (by omega) 63
          rw [if_pos (show v.src ≤ ((63 : Nat) : Int) by omega)] at e1
          have hwm : IntKind.i64.wrap ((votedTo B v.kind v.round 63 : Int) + 1) = ((votedTo B v.kind v.round 63 + 1 : Nat) : Int) := w64_succ (by have := votedTo_le B v.kind v.round 63; omega)
          have e2 := votedB_add B v (by omega)
          rw [hq] at hgt
          simp only [Option.isSome_none] at hgt
          obtain ⟨_, hge⟩ := List.getElem?_eq_some_iff.1 hgt
          simp [hj, hv]
          refine call_intro m3 ?_ ?_
          · simp
          simp [hg]
          refine call_intro m4 ?_ ?_
          · simp
          simp [hgr, vsub_kind, vsub_round, vsub_src]
          refine call_intro m5 ?_ ?_
          · simp [boxM]
          simp [boxM, hge, hgt, hs2, hs3, hs4, e1, e2, hwm]
          refine go_up D.length (fun i (_ : Unit) => True) (fun i _ q => ⟨[(1, .v (.int .i64 v.kind)), (2, .v (.int .i64 v.round)), (7, .ptr 7 q 0), (8, .ptr 8 q 0), (9, .v (.int .i64 ((votedTo (addB B v) v.kind v.round 63 : Nat) : Int))), (10, .row 10 32 q 0 D.length), (12, .ptr 12 q 0), (13, .v (.bool (F i))), (25, .sl 41 (Votes vs)), (26, .v (.int .i64 (vs.length : Nat))), (27, .v (.int .i64 (j : Nat))), (64, .row 10 32 q 0 D.length), (65, .v (.int .i64 (D.length : Nat))), (66, .v (.int .i64 (i : Nat)))],
            [(7, .var q (.node [.oref 1001 q true])), (1001, .ob q (.map true 3 true 41) (.node [.node (boxE 0 (addB B v)), .v (.int .i64 ((addB B v).length : Nat))])), (8, .var q (.arr 1 (Bools (votedB (addB B v) v.kind v.round)))), (10, .rows q 32 (Dgs D)), (12, .var q v.av)], q + 1⟩) () _ (Weak.re (by simp [hF0, hge, hgt, hs2, hs3, hs4, e1, e2, hwm])) trivial ?_ ?_
          · intro i _ q hi _
            have hwi : IntKind.i64.wrap ((i : Int) + 1) = ((i + 1 : Nat) : Int) := w64_succ (by omega)
            have hs1 := hFs i hi
            cases hb : F i with
            | false =>
              rw [hb] at hs1
              simp [hi, hb, hwi]
              exact ⟨(), _, Weak.re (by simp [hs1]), trivial⟩
            | true =>
              rw [hb] at hs1
              by_cases he : D[i] = v.dg
              · simp [hi, hb, hwi, he]
                exact ⟨(), _, Weak.re (by simp [hs1, he]), trivial⟩
              · simp [hi, hb, hwi, he]
                exact ⟨(), _, Weak.re (by simp [hs1, he]), trivial⟩
          · intro _ q _
            by_cases hm : v.dg ∈ D
            · have hb : F D.length = false := by rw [hFn]; simp [hm]
              have hA : addD D v.dg = D := if_pos hm
              simp [hb, hw]
              exact ⟨(addB B v, addD D v.dg), _, Weak.re (by simp [hA]), hinv⟩
            · have hb : F D.length = true := by rw [hFn]; simp [hm]
              have hA : addD D v.dg = D ++ [v.dg] := if_neg hm
              simp [hb, hw, hft, Dgs_snoc]
              exact ⟨(addB B v, addD D v.dg), _, Weak.re (by simp [hA]), hinv⟩

      · have e1 := votedTo_same B v v.kind r (fun _ h => absurd h hr) 63
        have e2 := votedB_same B v v.kind r (fun _ h => absurd h hr)
        simp [hj, hv]
        refine call_intro m3 ?_ ?_
        · simp
        simp [hg]
        refine call_intro m4 ?_ ?_
        · simp
        simp [hgr, vsub_kind, vsub_round, vsub_src]
        refine call_intro m5 ?_ ?_
        · simp [boxM]
        simp [boxM, hr, e1, e2]
        refine go_up D.length (fun i (_ : Unit) => True) (fun i _ q => ⟨[(1, .v (.int .i64 v.kind)), (2, .v (.int .i64 r)), (7, .ptr 7 q 0), (8, .ptr 8 q 0), (9, .v (.int .i64 ((votedTo (addB B v) v.kind r 63 : Nat) : Int))), (10, .row 10 32 q 0 D.length), (12, .ptr 12 q 0), (13, .v (.bool (F i))), (25, .sl 41 (Votes vs)), (26, .v (.int .i64 (vs.length : Nat))), (27, .v (.int .i64 (j : Nat))), (64, .row 10 32 q 0 D.length), (65, .v (.int .i64 (D.length : Nat))), (66, .v (.int .i64 (i : Nat)))],
          [(7, .var q (.node [.oref 1001 q true])), (1001, .ob q (.map true 3 true 41) (.node [.node (boxE 0 (addB B v)), .v (.int .i64 ((addB B v).length : Nat))])), (8, .var q (.arr 1 (Bools (votedB (addB B v) v.kind r)))), (10, .rows q 32 (Dgs D)), (12, .var q v.av)], q + 1⟩) () _ (Weak.re (by simp [hF0, hr, e1, e2])) trivial ?_ ?_
        · intro i _ q hi _
          have hwi : IntKind.i64.wrap ((i : Int) + 1) = ((i + 1 : Nat) : Int) := w64_succ (by omega)
          have hs1 := hFs i hi
          cases hb : F i with
          | false =>
            rw [hb] at hs1
            simp [hi, hb, hwi]
            exact ⟨(), _, Weak.re (by simp [hs1]), trivial⟩
          | true =>
            rw [hb] at hs1
            by_cases he : D[i] = v.dg
            · simp [hi, hb, hwi, he]
              exact ⟨(), _, Weak.re (by simp [hs1, he]), trivial⟩
            · simp [hi, hb, hwi, he]
              exact ⟨(), _, Weak.re (by simp [hs1, he]), trivial⟩
        · intro _ q _
          by_cases hm : v.dg ∈ D
          · have hb : F D.length = false := by rw [hFn]; simp [hm]
            have hA : addD D v.dg = D := if_pos hm
            simp [hb, hw]
            exact ⟨(addB B v, addD D v.dg), _, Weak.re (by simp [hA]), hinv⟩
          · have hb : F D.length = true := by rw [hFn]; simp [hm]
            have hA : addD D v.dg = D ++ [v.dg] := if_neg hm
            simp [hb, hw, hft, Dgs_snoc]
            exact ⟨(addB B v, addD D v.dg), _, Weak.re (by simp [hA]), hinv⟩

    · have e1 := votedTo_same B v k r (fun h => absurd h hk) 63
      have e2 := votedB_same B v k r (fun h => absurd h hk)
      simp [hj, hv]
      refine call_intro m3 ?_ ?_
      · simp
      simp [hg]
      refine call_intro m4 ?_ ?_
      · simp
      simp [hgr, vsub_kind, vsub_round, vsub_src]
      refine call_intro m5 ?_ ?_
      · simp [boxM]
      simp [boxM, hk, e1, e2]
      refine go_up D.length (fun i (_ : Unit) => True) (fun i _ q => ⟨[(1, .v (.int .i64 k)), (2, .v (.int .i64 r)), (7, .ptr 7 q 0), (8, .ptr 8 q 0), (9, .v (.int .i64 ((votedTo (addB B v) k r 63 : Nat) : Int))), (10, .row 10 32 q 0 D.length), (12, .ptr 12 q 0), (13, .v (.bool (F i))), (25, .sl 41 (Votes vs)), (26, .v (.int .i64 (vs.length : Nat))), (27, .v (.int .i64 (j : Nat))), (64, .row 10 32 q 0 D.length), (65, .v (.int .i64 (D.length : Nat))), (66, .v (.int .i64 (i : Nat)))],
        [(7, .var q (.node [.oref 1001 q true])), (1001, .ob q (.map true 3 true 41) (.node [.node (boxE 0 (addB B v)), .v (.int .i64 ((addB B v).length : Nat))])), (8, .var q (.arr 1 (Bools (votedB (addB B v) k r)))), (10, .rows q 32 (Dgs D)), (12, .var q v.av)], q + 1⟩) () _ (Weak.re (by simp [hF0, hk, e1, e2])) trivial ?_ ?_
      · intro i _ q hi _
        have hwi : IntKind.i64.wrap ((i : Int) + 1) = ((i + 1 : Nat) : Int) := w64_succ (by omega)
        have hs1 := hFs i hi
        cases hb : F i with
        | false =>
          rw [hb] at hs1
          simp [hi, hb, hwi]
          exact ⟨(), _, Weak.re (by simp [hs1]), trivial⟩
        | true =>
          rw [hb] at hs1
          by_cases he : D[i] = v.dg
          · simp [hi, hb, hwi, he]
            exact ⟨(), _, Weak.re (by simp [hs1, he]), trivial⟩
          · simp [hi, hb, hwi, he]
            exact ⟨(), _, Weak.re (by simp [hs1, he]), trivial⟩
      · intro _ q _
        by_cases hm : v.dg ∈ D
        · have hb : F D.length = false := by rw [hFn]; simp [hm]
          have hA : addD D v.dg = D := if_pos hm
          simp [hb, hw]
          exact ⟨(addB B v, addD D v.dg), _, Weak.re (by simp [hA]), hinv⟩
        · have hb : F D.length = true := by rw [hFn]; simp [hm]
          have hA : addD D v.dg = D ++ [v.dg] := if_neg hm
          simp [hb, hw, hft, Dgs_snoc]
          exact ⟨(addB B v, addD D v.dg), _, Weak.re (by simp [hA]), hinv⟩

  · rintro ⟨B, D⟩ c ⟨i1, i2, i3, i4⟩
    simp only at i1 i2 i3 i4
    have hsum := once_to (vs := B) (k := k) (r := r) i3 i4 63
    obtain ⟨T, hTe⟩ : ∃ T : Nat → Nat, ∀ i, T i = ((D.take i).map fun d => (forTo B k r d 63).length).sum := ⟨_, fun _ => rfl⟩
    have hT0 : T 0 = 0 := by simp [hTe]
    have hTs : ∀ i (h : i < D.length), T (i + 1) = T i + (forTo B k r D[i] 63).length := fun i h => by
      rw [hTe, hTe, List.take_succ_eq_append_getElem h, List.map_append, List.sum_append]
      simp
    have hTl : ∀ i, i ≤ D.length → T i ≤ 63 * i := by
      intro i
      induction i with
      | zero => intro _; omega
      | succ i ih =>
        intro h
        have := hTs i (by omega)
        have := forTo_len B k r D[i] 63
        have := ih (by omega)
        omega
    have hTn : T D.length = votedTo B k r 63 := by rw [hTe, List.take_length, hsum]
    clear hTe hsum
    simp
    refine go_up D.length (fun i (_ : Unit) => True) (fun i _ q => ⟨[(1, .v (.int .i64 k)), (2, .v (.int .i64 r)), (7, .ptr 7 q 0), (9, .v (.int .i64 ((votedTo B k r 63 : Nat) : Int))), (16, .v (.int .i64 ((T i : Nat) : Int))), (85, .row 10 32 q 0 D.length), (86, .v (.int .i64 (D.length : Nat))), (87, .v (.int .i64 (i : Nat)))],
      [(7, .var q (.node [.oref 1001 q true])), (1001, .ob q (.map true 3 true 41) (.node [.node (boxE 0 B), .v (.int .i64 (B.length : Nat))])), (10, .rows q 32 (Dgs D))], q + 1⟩) () _ (Weak.re (by simp [hT0])) trivial ?_ ?_
    · intro i _ q hi _
      have hwi : IntKind.i64.wrap ((i : Int) + 1) = ((i + 1 : Nat) : Int) := w64_succ (by omega)
      have h1 := hTs i hi
      have h2 := hTl i (by omega)
      have h3 := forTo_len B k r D[i] 63
      have m6 := count_meets (G := Gt) B k r D[i] (by omega)
      generalize (forTo B k r D[i] 63).length = n at *
      have hwn : IntKind.i64.wrap ((T i : Int) + (n : Int)) = ((T i + n : Nat) : Int) := w64_add (by omega)
      simp [hi]
      refine call_intro m6 ?_ ?_
      · simp [boxM]
      simp [boxM, hwn]
      simp [hwi]
      exact ⟨(), _, Weak.re (by simp [h1]), trivial⟩
    · intro _ q _
      simp
      refine post_end (.inr rfl) ?_
      simp [hTn]
end Go.Proofs.YtglkfbhjimnboaaDoor.WL

end
section
/-
  CHAPTER 02: what the row's condition gives the walks: the table in the program's variable.
-/
namespace Go.Proofs.YtglkfbhjimnboaaDoor.WL
open Go

theorem gTable : Tryd.prog.globalNamed "wapentake/sha.table" = some 0 := by kernel_rfl
def tableZ : List Int := table.map w32
theorem laid_eq {H : Type} : (Rows.laid_wapentake_sha_table : DataW H) = Lib.tabData .u32 tableZ := rfl
theorem Es_ints {C : Ctx} : ∀ ws : List UInt32, Es C 1 (U ws) (ws.map fun z => Value.int .u32 (w32 z))
  | [] => rfl
  | w :: ws => ⟨[_], _, rfl, rfl, ⟨rfl, rfl⟩, Es_ints ws⟩
theorem gr_of_laid {W : World} (h : laidMetH Tryd.prog [("wapentake/sha.table", Rows.laid_wapentake_sha_table)] W) : GR ⟨W, fun k => k < W.heap.size, fun _ => none, fun _ => none, fun g => g = 0⟩ Gt := by
  rw [MakeChecks.laidMetH_plain _ _ _ (by kernel_rfl), laid_eq] at h
  have hT : Lib.TabIs Tryd.prog W "wapentake/sha.table" .u32 tableZ := by
    refine Lib.tabIs_of_head (t := 119) (e := 101) (n := 64) gTable ?_ ?_ ?_ ?_ ?_ h
    · kernel_rfl
    · kernel_rfl
    · kernel_rfl
    · kernel_rfl
    · kernel_rfl
  intro n x hx
  unfold Gt at hx
  split at hx
  · rename_i hn
    subst hn
    cases hx
    refine ⟨by simp [closed, closeds, U, closeds_all], 0, 0, _, rfl, ?_, Es_ints table, ?_⟩
    · have h0 := hT.cell gTable 0 (by decide)
      show 0 < W.heap.size
      rcases Nat.eq_zero_or_pos W.heap.size with h1 | h1
      · simp [World.cell?, Array.getElem?_eq_none (Nat.le_of_eq h1)] at h0
      · exact h1
    · intro j u hu
      have hj : j < table.length := by
        rcases Nat.lt_or_ge j table.length with h1 | h1
        · exact h1
        · rw [List.getElem?_eq_none (by simpa using h1)] at hu
          cases hu
      have h1 := hT.cell gTable j (by simpa [tableZ] using hj)
      rw [Nat.zero_add, h1]
      simp [List.getElem?_eq_getElem hj] at hu
      rw [← hu]
      simp [tableZ, List.getD_eq_getElem?_getD, List.getElem?_eq_getElem hj]
  · cases hx
end Go.Proofs.YtglkfbhjimnboaaDoor.WL

end
