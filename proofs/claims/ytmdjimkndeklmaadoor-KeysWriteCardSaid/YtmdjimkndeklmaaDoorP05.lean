/-
  CHAPTER 05: laws of keys, without any program.
-/
import Derived.Test.YtmdjimkndeklmaaDoorM05
import Derived.Test.YtmdjimkndeklmaaDoorP03
import Derived.Test.YtmdjimkndeklmaaDoorP01b
namespace Go.Proofs.YtmdjimkndeklmaaDoor.WL
open Go
attribute [local irreducible] sha leafD pairD secD shutD wholeD pubD ofD

def signK (seed : Dg) (ls : List Dg) (n : Nat) (d : Dg) (N : Nat) : Sig := ⟨(n : Int), openL seed (n : Int) d N, shutL seed (n : Int) d N, pathD ls n⟩
/-- A tree's signature is right under its key. -/
theorem sign_checks (seed : Dg) (h n : Nat) (d : Dg) (hh : h ≤ 6) (hn : n < 2 ^ h) : checkK (rootD (leavesD seed 32 (2 ^ h))) (h : Int) d (signK seed (leavesD seed 32 (2 ^ h)) n d 32) = true := by
  have hl := leavesD_length seed 32 (2 ^ h)
  have hg := leavesD_get seed 32 (2 ^ h) n hn
  unfold checkK signK
  rw [ofD_fits, Int.toNat_natCast, Int.toNat_natCast]
  generalize 2 ^ h = q at *
  generalize leavesD seed 32 q = l at *
  have hnl : n < l.length := by omega
  have hp := checkD_path l.length l n hnl (Nat.le_refl _)
  rw [List.getElem?_eq_getElem hnl] at hg
  rw [Option.some.inj hg, hl] at hp
  have h6 : (h : Int) ≤ 6 := by omega
  have hnq : (n : Int) < (q : Int) := by omega
  simp [hp, h6, hnq, hh, hn]
theorem rd_ds (pre y : Bytes) (l : List Dg) : ∀ n, n ≤ l.length → (⟨pre, flatD l ++ y, false⟩ : Rd).ds n = l.take n ∧ (⟨pre, flatD l ++ y, false⟩ : Rd).ds' n = ⟨pre ++ flatD (l.take n), flatD (l.drop n) ++ y, false⟩
  | 0, _ => by simp [Rd.ds, Rd.ds', flatD]
  | n + 1, h => by
    obtain ⟨h1, h2⟩ := rd_ds pre y l n (by omega)
    simp only [Rd.ds, Rd.ds', h1, h2]
    have e : flatD (l.drop n) = l[n].bs ++ flatD (l.drop (n + 1)) := by
      rw [List.drop_eq_getElem_cons (show n < l.length by omega)]
      rfl
    rw [e, List.append_assoc]
    have := rd_dg (pre ++ flatD (l.take n)) (flatD (l.drop (n + 1)) ++ y) l[n]
    rw [this.1, this.2, flatD_snoc l n (show n < l.length by omega), take_snoc _ _ (show n < l.length by omega), List.append_assoc]
    exact ⟨rfl, rfl⟩
theorem rd_sig (pre y : Bytes) (s : Sig) (hl : W64 s.leaf) (h : s.ok = true) : (⟨pre, s.bytes ++ y, false⟩ : Rd).sig = s ∧ (⟨pre, s.bytes ++ y, false⟩ : Rd).sig' = ⟨pre ++ s.bytes, y, false⟩ := by
  simp only [Sig.ok, decide_eq_true_eq] at h
  obtain ⟨h1, h2, h3⟩ := h
  have eb : s.bytes ++ y = be8 s.leaf ++ (be8 (s.path.length : Int) ++ (flatD s.op ++ (flatD s.sh ++ (flatD s.path ++ y)))) := by simp [Sig.bytes, nums]
  have e1 := rd_num pre (be8 (s.path.length : Int) ++ (flatD s.op ++ (flatD s.sh ++ (flatD s.path ++ y)))) s.leaf hl
  have e2 := rd_in (pre ++ be8 s.leaf) (flatD s.op ++ (flatD s.sh ++ (flatD s.path ++ y))) (s.path.length : Int) 0 6 (by unfold W64; omega) (by omega)
  have e3 := rd_ds (pre ++ be8 s.leaf ++ be8 (s.path.length : Int)) (flatD s.sh ++ (flatD s.path ++ y)) s.op 32 (by omega)
  rw [List.take_of_length_le (by omega), List.drop_of_length_le (by omega)] at e3
  have e4 := rd_ds (pre ++ be8 s.leaf ++ be8 (s.path.length : Int) ++ flatD s.op) (flatD s.path ++ y) s.sh 32 (by omega)
  rw [List.take_of_length_le (by omega), List.drop_of_length_le (by omega)] at e4
  have e5 := rd_ds (pre ++ be8 s.leaf ++ be8 (s.path.length : Int) ++ flatD s.op ++ flatD s.sh) y s.path s.path.length (Nat.le_refl _)
  rw [List.take_length, List.drop_length] at e5
  have f0 : flatD [] = [] := rfl
  rw [f0, List.nil_append] at e3 e4 e5
  have es2 : (⟨pre, s.bytes ++ y, false⟩ : Rd).s2 = ⟨pre ++ be8 s.leaf ++ be8 (s.path.length : Int), flatD s.op ++ (flatD s.sh ++ (flatD s.path ++ y)), false⟩ := by
    unfold Rd.s2
    rw [eb, e1.2, e2.2]
  have esN : (⟨pre, s.bytes ++ y, false⟩ : Rd).sN = s.path.length := by
    unfold Rd.sN
    rw [eb, e1.2, e2.1]
    rfl
  have es' : (⟨pre, s.bytes ++ y, false⟩ : Rd).sig' = ⟨pre ++ s.bytes, y, false⟩ := by
    unfold Rd.sig'
    rw [es2, esN, e3.2, e4.2, e5.2]
    simp [Sig.bytes, nums]
  refine ⟨?_, es'⟩
  unfold Rd.sig
  rw [es']
  show (⟨pre, s.bytes ++ y, false⟩ : Rd).sig0 = s
  unfold Rd.sig0
  rw [es2, esN, e3.1, e3.2, e4.1, e4.2, e5.1, eb, e1.1]
theorem sig_back (s : Sig) (hl : W64 s.leaf) (h : s.ok = true) : (Rd.of s.bytes).sig = s ∧ (Rd.of s.bytes).sig'.done = true := by
  have := rd_sig [] [] s hl h
  rw [List.append_nil] at this
  exact ⟨this.1, by unfold Rd.of; rw [this.2]; rfl⟩
end Go.Proofs.YtmdjimkndeklmaaDoor.WL
