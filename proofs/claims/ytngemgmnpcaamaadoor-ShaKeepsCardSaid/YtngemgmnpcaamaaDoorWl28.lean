/-
  ENDS AND CALLS, with the names reckoned.
-/
import Derived.Test.YtngemgmnpcaamaaDoorWl27
namespace Go.Proofs.YtngemgmnpcaamaaDoor.WL
open Go

mutual
/-- Which old name each new name stands for. -/
def pairsA : AV → AV → Names
  | .ptr l g _, .ptr k _ _ => [(k, some (l, g))]
  | .row l _ g _ _, .row k _ _ _ _ => [(k, some (l, g))]
  | .v (.slice none 0 0), .row k _ _ _ _ => [(k, none)]
  | .node rs, .node ws => pairsL rs ws
  | .tup rs, .tup ws => pairsL rs ws
  | _, _ => []
def pairsL : List AV → List AV → Names
  | r :: rs, w :: ws => pairsA r w ++ pairsL rs ws
  | _, _ => []
end

/-- The names within contents. -/
def inner (m : Nat → Option Loc) (L : Names) : List (Nat × Loc) → Names
  | [] => L
  | (k, .var _ w) :: r => inner m (match look L k with
      | some (some (l, _)) => match m l with
        | some (.var _ raw) => L ++ pairsA raw w
        | _ => L
      | _ => L) r
  | _ :: r => inner m L r

def oldNames : List (Nat × Loc) → Names
  | [] => []
  | (k, c) :: r => if c.gen = 0 then (k, some (k, 0)) :: oldNames r else oldNames r

def FitEc (m : Nat → Option Loc) (L : Names) (k : Nat) : Loc → Prop
  | .var _ w => match look L k with
    | some (some (l, g)) => match m l with
      | some (.var g' raw) => g' = g ∧ Fit m L raw w
      | _ => False
    | _ => False
  | .rows _ sz ws => match look L k with
    | some (some (l, g)) => match m l with
      | some (.rows g' sz' xs) => g' = g ∧ sz' = sz ∧ FitL m L xs ws
      | _ => False
    | some none => ws = []
    | none => False

theorem FitEc_ok {m : Nat → Option Loc} {L : Names} {k : Nat} {c : Loc} (h : FitEc m L k c) : FitE m L k c := by
  cases c with
  | var g w =>
    simp only [FitEc] at h
    split at h <;> first | (cases h; done) | skip
    rename_i l g1 hL
    split at h <;> first | (cases h; done) | skip
    rename_i g2 raw hm
    obtain ⟨rfl, h⟩ := h
    exact ⟨l, _, raw, hL, hm, h⟩
  | rows g sz ws =>
    simp only [FitEc] at h
    split at h <;> first | (cases h; done) | skip
    · rename_i l g1 hL
      split at h <;> first | (cases h; done) | skip
      rename_i g2 sz2 xs hm
      obtain ⟨rfl, rfl, h⟩ := h
      exact .inl ⟨l, _, xs, hL, hm, h⟩
    · rename_i hL
      exact .inr ⟨hL, h⟩

def FitM (m : Nat → Option Loc) (L : Names) : List (Nat × Loc) → Prop
  | [] => True
  | e :: r => FitEc m L e.1 e.2 ∧ FitM m L r
def touchM (m : Nat → Option Loc) (L : Names) : List (Nat × Loc) → List Nat
  | [] => []
  | e :: r => touchE m L e.1 e.2 ++ touchM m L r
def StampedM (U : Nat → Prop) : List (Nat × Loc) → Prop
  | [] => True
  | e :: r => StampedLoc U e.2 ∧ StampedM U r
def oldE (L : Names) : List (Nat × Loc) → Prop
  | [] => True
  | e :: r => (e.2.gen = 0 → look L e.1 = some (some (e.1, 0))) ∧ oldE L r
def isVar0 : Option Loc → Bool
  | some (.var 0 _) => true
  | _ => false
def isName : Option (Option (Nat × Nat)) → Bool
  | some (some _) => true
  | _ => false
def oldC (M : List (Nat × Loc)) (L : Names) : List (Nat × Loc) → Prop
  | [] => True
  | e :: r => (e.2.gen = 0 → isVar0 (look M e.1) = true ∧ isName (look L e.1) = true) ∧ oldC M L r

section
variable {m : Nat → Option Loc} {L : Names} {U : Nat → Prop}
theorem FitM_mem : ∀ {M : List (Nat × Loc)} {e : Nat × Loc}, FitM m L M → e ∈ M → FitE m L e.1 e.2
  | [], _, _, h => by cases h
  | _ :: _, _, h, hm => by
    rcases List.mem_cons.1 hm with rfl | hm
    · exact FitEc_ok h.1
    · exact FitM_mem h.2 hm
theorem touchM_mem : ∀ {M : List (Nat × Loc)} {e : Nat × Loc} {t : Nat}, e ∈ M → t ∈ touchE m L e.1 e.2 → t ∈ touchM m L M
  | [], _, _, h, _ => by cases h
  | _ :: _, _, _, hm, h => by
    rcases List.mem_cons.1 hm with rfl | hm
    · exact List.mem_append_left _ h
    · exact List.mem_append_right _ (touchM_mem hm h)
theorem StampedM_mem : ∀ {M : List (Nat × Loc)} {e : Nat × Loc}, StampedM U M → e ∈ M → StampedLoc U e.2
  | [], _, _, h => by cases h
  | _ :: _, _, h, hm => by
    rcases List.mem_cons.1 hm with rfl | hm
    · exact h.1
    · exact StampedM_mem h.2 hm
theorem oldE_mem : ∀ {M : List (Nat × Loc)} {e : Nat × Loc}, oldE L M → e ∈ M → e.2.gen = 0 → look L e.1 = some (some (e.1, 0))
  | [], _, _, h => by cases h
  | _ :: _, _, h, hm => by
    rcases List.mem_cons.1 hm with rfl | hm
    · exact h.1
    · exact oldE_mem h.2 hm
theorem oldC_mem {M0 : List (Nat × Loc)} : ∀ {M : List (Nat × Loc)} {e : Nat × Loc}, oldC M0 L M → e ∈ M → e.2.gen = 0 → isVar0 (look M0 e.1) = true ∧ isName (look L e.1) = true
  | [], _, _, h => by cases h
  | _ :: _, _, h, hm => by
    rcases List.mem_cons.1 hm with rfl | hm
    · exact h.1
    · exact oldC_mem h.2 hm
end

/-- A function's end. -/
def EndsC (m : Nat → Option Loc) (raw res : AV) (M' : List (Nat × Loc)) (L : Names) : Prop :=
  FitR m L raw res ∧ Stamped (fun g => g = 0 ∨ g = 1) res ∧ FitM m L M' ∧ StampedM (fun g => g = 0 ∨ g = 1) M' ∧ (M'.map (·.1)).Nodup ∧ (srcs L M').Nodup ∧ (∀ t ∈ touchR m raw res ++ touchM m L M', t ∉ srcs L M') ∧ oldE L M'

def endC (o : Option (List AV)) (m : List (Nat × Loc)) (res : AV) (M' : List (Nat × Loc)) : Prop :=
  match o with
  | some xs => EndsC (look m) (raw1 xs) res M' (inner (look m) (oldNames M' ++ pairsA (raw1 xs) res) M')
  | none => False

theorem post_end {rs : List CRes} {res : AV} {M' : List (Nat × Loc)} {e : Exit} {S : SA} (he : e = .normal ∨ e = .ret)
    (h : endC (rawRes (look S.fr) (look S.m) rs) S.m res M') : postA rs res M' e S := by
  refine ⟨he, ?_⟩
  cases hq : rawRes (look S.fr) (look S.m) rs with
  | none => rw [hq] at h; exact h.elim
  | some xs =>
    rw [hq] at h
    obtain ⟨h1, h2, h3, h4, h5, h6, h7, h8⟩ := h
    refine ⟨xs, _, _, rfl, h1, fun t ht => List.mem_append_left _ ht, h2, ⟨h5, fun e he => FitM_mem h3 he, fun e he t ht => List.mem_append_right _ (touchM_mem he ht), h6, h7, fun e he => StampedM_mem h4 he⟩, fun e he => oldE_mem h8 he⟩

/-- What a call asks of the caller. -/
def CallC (m : Nat → Option Loc) (g nb : Nat) (vals args : List AV) (M M' : List (Nat × Loc)) (L : Names) : Prop :=
  FitL m L vals args ∧ StampedL (· = 0) args ∧ FitM m L M ∧ StampedM (· = 0) M ∧ (M.map (·.1)).Nodup ∧ (srcs L M).Nodup ∧ (∀ t ∈ touchL m vals args ++ touchM m L M, t ∉ srcs L M) ∧ ((renM L nb g M').map (·.1)).Nodup ∧ oldC M L M'

theorem call_intro {P : Program} {G : Nat → Option AV} {Q : Exit → SA → Prop} {f clk i n : Nat} {d : Option Nat} {vals args : List AV} {r : List COper} {fr : List (Nat × AV)} {m M M' : List (Nat × Loc)} {lg : Log} {dr : Option (List Nat × List (Nat × Nat))} {keepS : List Nat} {k : List Kont}
    {keep : Bool} {res : AV} (hm : Meets P G f args M keep res M') (hc : CallC (look m) (clk + i) (nbOf (d.getD 0)) vals args M M' (inner (look m) (pairsL vals args) M))
    (hk : goS P G Q (some (renA (inner (look m) (pairsL vals args) M) (nbOf (d.getD 0)) (clk + i) res, callUs (nbOf (d.getD 0)) (clk + i) (inner (look m) (pairsL vals args) M) M keep M' (touchL (look m) vals args ++ touchM (look m) (inner (look m) (pairsL vals args) M) M)))
      ((touchL (look m) vals args ++ touchM (look m) (inner (look m) (pairsL vals args) M) M) ++ nameSrcs (inner (look m) (pairsL vals args) M)) d clk r i fr m lg dr keepS n k) : goV P G Q (some vals) (.call f) d clk r i fr m lg dr keepS n k := by
  obtain ⟨h1, h2, h3, h4, h5, h6, h7, h8, h9⟩ := hc
  refine ⟨_, args, M, keep, res, M', _, ⟨hm, h1, fun t ht => List.mem_append_left _ ht, h2, ⟨h5, fun e he => FitM_mem h3 he, fun e he t ht => List.mem_append_right _ (touchM_mem he ht), h6, h7, fun e he => StampedM_mem h4 he⟩, h8, fun e he hg => ?_⟩, hk⟩
  obtain ⟨k1, k2⟩ := oldC_mem h9 he hg
  unfold isVar0 at k1
  unfold isName at k2
  split at k1 <;> first | (cases k1; done) | skip
  rename_i w hw
  split at k2 <;> first | (cases k2; done) | skip
  rename_i q hq
  exact ⟨w, q, hw, hq⟩

@[simp] theorem endC_some (xs : List AV) (m : List (Nat × Loc)) (res : AV) (M' : List (Nat × Loc)) : endC (some xs) m res M' = EndsC (look m) (raw1 xs) res M' (inner (look m) (oldNames M' ++ pairsA (raw1 xs) res) M') := (rfl)
attribute [simp] pairsA pairsL inner oldNames FitM touchM StampedM oldE isVar0 isName oldC EndsC CallC FitEc touchE StampedLoc src srcs Fit touch touchL FitR touchR Stamped StampedL rawRes raw1 Loc.gen kap renA rens renLoc renM callUs nbOf nameSrcs
attribute [simp] goodM goodE goodA goods closed closeds plain plains argsL

@[simp] theorem FitL_nil {m : Nat → Option Loc} {L : Names} : FitL m L [] [] = True := by simp [FitL]
@[simp] theorem FitL_cons {m : Nat → Option Loc} {L : Names} {r w : AV} {rs ws : List AV} : FitL m L (r :: rs) (w :: ws) = (Fit m L r w ∧ FitL m L rs ws) := by
  simp only [FitL]
  apply propext
  constructor
  · rintro ⟨r', rs', e, h1, h2⟩
    obtain ⟨rfl, rfl⟩ := (by simpa using e : r = r' ∧ rs = rs')
    exact ⟨h1, h2⟩
  · rintro ⟨h1, h2⟩
    exact ⟨r, rs, rfl, h1, h2⟩
@[simp] theorem FitL_nilc {m : Nat → Option Loc} {L : Names} {w : AV} {ws : List AV} : FitL m L [] (w :: ws) = False := by simp [FitL]
@[simp] theorem FitL_same {m : Nat → Option Loc} {L : Names} {as : List AV} (h : closeds as = true) : FitL m L as as = True := eq_true (FitL_refl as h).1
@[simp] theorem touchL_same {m : Nat → Option Loc} {as : List AV} (h : closeds as = true) : touchL m as as = [] := (FitL_refl (L := []) as h).2
@[simp] theorem StampedL_closed {U : Nat → Prop} {as : List AV} (h : closeds as = true) : StampedL U as = True := eq_true (closeds_stamped as h)

end Go.Proofs.YtngemgmnpcaamaaDoor.WL
