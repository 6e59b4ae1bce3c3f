/-
  CHAPTER 05: many one-time keys under one root, without any program.
-/
import Derived.Test.YtmdjimkndeklmaaDoorM04
import Derived.Test.YtmdjimkndeklmaaDoorM09
namespace Go.Proofs.YtmdjimkndeklmaaDoor.WL
open Go
attribute [local irreducible] sha leafD pairD secD shutD wholeD pubD ofD

structure Sig where
  leaf : Int
  op : List Dg
  sh : List Dg
  path : List Dg
def Sig.zero : Sig := ⟨0, [], [], []⟩
def Sig.avS (s : Sig) : AV := .node [.v (.int .i64 s.leaf), .node [.sl 32 (Dgs s.op), .sl 32 (Dgs s.sh)], .sl 32 (Dgs s.path)]
/-- A signature whose lists lie in rows of its own. -/
def Sig.avR (a b c g : Nat) (s : Sig) : AV := .node [.v (.int .i64 s.leaf), .node [.row a 32 g 0 s.op.length, .row b 32 g 0 s.sh.length], .row c 32 g 0 s.path.length]
def Sig.rows (a b c g : Nat) (s : Sig) : List (Nat × Loc) := [(a, .rows g 32 (Dgs s.op)), (b, .rows g 32 (Dgs s.sh)), (c, .rows g 32 (Dgs s.path))]
def leafK (p : Dg) : Dg := leafD p.bs
def leavesD (seed : Dg) (N : Nat) : Nat → List Dg
  | 0 => []
  | n + 1 => leavesD seed N n ++ [leafK (pubD seed (n : Int) N)]
@[simp] theorem leavesD_length (seed : Dg) (N n : Nat) : (leavesD seed N n).length = n := by
  induction n with
  | zero => rfl
  | succ n ih => simp only [leavesD, List.length_append, ih, List.length_cons, List.length_nil]
theorem leavesD_get (seed : Dg) (N : Nat) : ∀ (n i : Nat), i < n → (leavesD seed N n)[i]? = some (leafK (pubD seed (i : Int) N))
  | 0, i, h => by omega
  | n + 1, i, h => by
    simp only [leavesD]
    by_cases h1 : i < n
    · rw [List.getElem?_append_left (by simpa using h1)]
      exact leavesD_get seed N n i h1
    · have : i = n := by omega
      subst this
      rw [List.getElem?_append_right (by simp)]
      simp
/-- Whether a signature is right under a key. -/
def checkK (root : Dg) (h : Int) (d : Dg) (s : Sig) : Bool :=
  decide (s.op.length = 32 ∧ s.sh.length = 32) && (decide (0 ≤ h ∧ h ≤ 6) && (decide (0 ≤ s.leaf ∧ s.leaf < ((2 ^ h.toNat : Nat) : Int)) && checkD root (leafK (ofD d s.op s.sh 32)) s.leaf.toNat (2 ^ h.toNat) s.path))
def Sig.ok (s : Sig) : Bool := decide (s.op.length = 32 ∧ s.sh.length = 32 ∧ s.path.length ≤ 6)
def Sig.bytes (s : Sig) : Bytes := nums [s.leaf, (s.path.length : Int)] ++ (flatD s.op ++ (flatD s.sh ++ flatD s.path))
theorem Sig.bytes_len (s : Sig) : s.bytes.length = 16 + 32 * (s.op.length + s.sh.length + s.path.length) := by
  simp only [Sig.bytes, List.length_append, nums_length, flatD_length, List.length_cons, List.length_nil]
  omega
/-- So many digests read. -/
def Rd.ds' (r : Rd) : Nat → Rd
  | 0 => r
  | n + 1 => (r.ds' n).dg'
def Rd.ds (r : Rd) : Nat → List Dg
  | 0 => []
  | n + 1 => r.ds n ++ [(r.ds' n).dg]
@[simp] theorem Rd.ds_length (r : Rd) (n : Nat) : (r.ds n).length = n := by
  induction n with
  | zero => rfl
  | succ n ih => simp only [Rd.ds, List.length_append, ih, List.length_cons, List.length_nil]
theorem Rd.ds_sane (r : Rd) (h : r.sane) (n : Nat) : (r.ds' n).sane := by
  cases n with
  | zero => exact h
  | succ n => exact Rd.dg_sane _
theorem Rd.ds_fault (n : Nat) : Rd.fault.ds' n = Rd.fault := by
  induction n with
  | zero => rfl
  | succ n ih => simp only [Rd.ds', ih]; exact Rd.dg_bad _ rfl
theorem Rd.ds_bad (r : Rd) (k : Nat) (h : (r.ds' k).bad = true) : ∀ n, k ≤ n → (r.ds' n).bad = true := by
  intro n
  induction n with
  | zero => intro hk; rw [show k = 0 by omega] at h; exact h
  | succ n ih =>
    intro hk
    rcases (show k = n + 1 ∨ k ≤ n by omega) with rfl | h1
    · exact h
    · show ((r.ds' n).dg').bad = true
      rw [Rd.dg_bad _ (ih h1)]
      rfl
theorem Rd.inn_fault (r : Rd) (lo hi : Int) (h : (r.inn' lo hi).bad = true) : r.inn' lo hi = Rd.fault := by
  unfold Rd.inn' at h ⊢
  split
  · rename_i k
    rw [if_pos k] at h
    simp only [Rd.inOk, Bool.and_eq_true, Bool.not_eq_true'] at k
    rw [k.1.1] at h
    cases h
  · rfl
def Rd.s2 (r : Rd) : Rd := r.num'.inn' 0 6
def Rd.sN (r : Rd) : Nat := (r.num'.inn 0 6).toNat
theorem Rd.sN_eq (r : Rd) : ((r.sN : Nat) : Int) = r.num'.inn 0 6 ∧ r.sN ≤ 6 := by
  have := r.num'.inn_range 0 6 (by omega)
  unfold Rd.sN
  omega
def Rd.sig' (r : Rd) : Rd := ((r.s2.ds' 32).ds' 32).ds' r.sN
def Rd.sig0 (r : Rd) : Sig := ⟨r.num, r.s2.ds 32, (r.s2.ds' 32).ds 32, ((r.s2.ds' 32).ds' 32).ds r.sN⟩
def Rd.sig (r : Rd) : Sig := if r.sig'.bad = true then Sig.zero else r.sig0
theorem Rd.sig_fault (r : Rd) (h : r.s2.bad = true) : r.s2 = Rd.fault ∧ r.sig' = Rd.fault := by
  have e : r.s2 = Rd.fault := Rd.inn_fault _ _ _ h
  refine ⟨e, ?_⟩
  unfold Rd.sig'
  rw [e, Rd.ds_fault, Rd.ds_fault, Rd.ds_fault]
theorem Rd.sig_sane (r : Rd) : r.sig'.sane := Rd.ds_sane _ (Rd.ds_sane _ (Rd.ds_sane _ (Rd.inn_sane _ _ _) _) _) _
/-- All digests as one list. -/
theorem Rd.ds_add' (r : Rd) (n : Nat) : ∀ m, r.ds' (n + m) = (r.ds' n).ds' m
  | 0 => rfl
  | m + 1 => by
    show (r.ds' (n + m)).dg' = ((r.ds' n).ds' m).dg'
    rw [Rd.ds_add' r n m]
theorem Rd.ds_add (r : Rd) (n : Nat) : ∀ m, r.ds (n + m) = r.ds n ++ (r.ds' n).ds m
  | 0 => by simp [Rd.ds]
  | m + 1 => by
    show r.ds (n + m) ++ [(r.ds' (n + m)).dg] = r.ds n ++ ((r.ds' n).ds m ++ [((r.ds' n).ds' m).dg])
    rw [Rd.ds_add r n m, Rd.ds_add' r n m, List.append_assoc]
end Go.Proofs.YtmdjimkndeklmaaDoor.WL
