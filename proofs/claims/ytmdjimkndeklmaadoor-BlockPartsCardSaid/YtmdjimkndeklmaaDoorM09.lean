/-
  CHAPTER 09: requests and replies, without any program.
-/
import Derived.Test.YtmdjimkndeklmaaDoorM01
namespace Go.Proofs.YtmdjimkndeklmaaDoor.WL
open Go

structure Chg where
  kind : Int
  id : Int
  new : Int
  root : Dg
  height : Int
structure Req where
  client : Int
  num : Int
  kind : Int
  key : Bytes
  val : Bytes
  old : Bytes
  ch : Chg
def Chg.av (c : Chg) : AV := .node [.v (.int .i64 c.kind), .v (.int .i64 c.id), .v (.int .i64 c.new), .node [dv c.root, .v (.int .i64 c.height)]]
def Req.av (q : Req) : AV := .node [.v (.int .i64 q.client), .v (.int .i64 q.num), .node [.v (.int .i64 q.kind), .v (.string (mkS q.key)), .v (.string (mkS q.val)), .v (.string (mkS q.old)), q.ch.av]]
def Chg.zero : Chg := ⟨0, 0, 0, Dg.zero, 0⟩
def Req.zero : Req := ⟨0, 0, 0, [], [], [], Chg.zero⟩
@[simp] theorem Req.av_closed (q : Req) : closed q.av = true := by simp [Req.av, Chg.av]
@[simp] theorem Req.av_plain (q : Req) : plain q.av = true := by simp [Req.av, Chg.av]
@[simp] theorem Req.av_solid (q : Req) : q.av.solid = true := (rfl)
@[simp] theorem Req.av_agg (q : Req) : q.av.isAgg = true := (rfl)
@[simp] theorem Req.av_size (q : Req) : q.av.size = 42 := by simp [Req.av, Chg.av]

def Req.bytes (q : Req) : Bytes := nums [q.client, q.num, q.kind] ++ (txts [q.key, q.val, q.old] ++ (nums [q.ch.kind, q.ch.id, q.ch.new, q.ch.height] ++ q.ch.root.bs))
theorem Req.bytes_len (q : Req) : q.bytes.length = 100 + (q.key.length + q.val.length + q.old.length) := by
  simp [Req.bytes, nums_length, txts]
  omega
def Req.good (q : Req) : Bool := decide (1 ≤ q.client) && decide (q.client ≤ 64) && decide (1 ≤ q.num) && decide (q.num ≤ 1099511627776) && decide (1 ≤ q.kind) && decide (q.kind ≤ 7) &&
  (decide (q.key.length ≤ 1024) && decide (q.val.length ≤ 1024) && decide (q.old.length ≤ 1024))
/-- Reading: the reader behind so many parts. -/
def Rd.q1 (r : Rd) : Rd := r.inn' 1 64
def Rd.q2 (r : Rd) : Rd := r.q1.inn' 1 1099511627776
def Rd.q3 (r : Rd) : Rd := r.q2.inn' 1 7
def Rd.q4 (r : Rd) : Rd := r.q3.text' 1024
def Rd.q5 (r : Rd) : Rd := r.q4.text' 1024
def Rd.q6 (r : Rd) : Rd := r.q5.text' 1024
def Rd.q7 (r : Rd) : Rd := r.q6.num'
def Rd.q8 (r : Rd) : Rd := r.q7.num'
def Rd.q9 (r : Rd) : Rd := r.q8.num'
def Rd.q10 (r : Rd) : Rd := r.q9.num'
def Rd.req' (r : Rd) : Rd := r.q10.dg'
def Rd.req0 (r : Rd) : Req := ⟨r.inn 1 64, r.q1.inn 1 1099511627776, r.q2.inn 1 7, r.q3.text 1024, r.q4.text 1024, r.q5.text 1024, ⟨r.q6.num, r.q7.num, r.q8.num, r.q10.dg, r.q9.num⟩⟩
def Rd.req (r : Rd) : Req := if r.req'.bad = true then Req.zero else r.req0
/-- A reader that found a fault has nothing left. -/
def Rd.sane (r : Rd) : Prop := r.bad = true → r.s = []
theorem Rd.skip_sane (r : Rd) (k : Int) : (r.skip k).sane := by
  unfold Rd.skip Rd.sane
  split <;> simp [Rd.fault]
theorem Rd.num_sane (r : Rd) : r.num'.sane := r.skip_sane 8
theorem Rd.inn_sane (r : Rd) (lo hi : Int) : (r.inn' lo hi).sane := by
  unfold Rd.inn'
  split
  · exact r.num_sane
  · simp [Rd.sane, Rd.fault]
theorem Rd.text_sane (r : Rd) (k : Int) : (r.text' k).sane := Rd.skip_sane _ _
theorem Rd.dg_sane (r : Rd) : r.dg'.sane := r.skip_sane 32
theorem Rd.req_sane (r : Rd) : r.req'.sane := Rd.dg_sane _
theorem Rd.skip_bad (r : Rd) (k : Int) (h : r.bad = true) : r.skip k = Rd.fault := by simp [Rd.skip, Rd.ok, h]
theorem Rd.num_bad (r : Rd) (h : r.bad = true) : r.num' = Rd.fault := r.skip_bad 8 h
theorem Rd.inn_bad (r : Rd) (lo hi : Int) (h : r.bad = true) : r.inn' lo hi = Rd.fault := by
  unfold Rd.inn' Rd.inOk
  rw [r.num_bad h]
  rfl
theorem Rd.text_bad (r : Rd) (k : Int) (h : r.bad = true) : r.text' k = Rd.fault := by
  unfold Rd.text'
  rw [r.skip_bad 4 h]
  exact Rd.skip_bad _ _ rfl
theorem Rd.dg_bad (r : Rd) (h : r.bad = true) : r.dg' = Rd.fault := r.skip_bad 32 h
theorem Rd.req_bad (r : Rd) (h : r.bad = true) : r.req' = Rd.fault := by
  have e1 : r.q1 = Rd.fault := r.inn_bad _ _ h
  have e2 : r.q2 = Rd.fault := by unfold Rd.q2; rw [e1]; exact Rd.inn_bad _ _ _ rfl
  have e3 : r.q3 = Rd.fault := by unfold Rd.q3; rw [e2]; exact Rd.inn_bad _ _ _ rfl
  have e4 : r.q4 = Rd.fault := by unfold Rd.q4; rw [e3]; exact Rd.text_bad _ _ rfl
  have e5 : r.q5 = Rd.fault := by unfold Rd.q5; rw [e4]; exact Rd.text_bad _ _ rfl
  have e6 : r.q6 = Rd.fault := by unfold Rd.q6; rw [e5]; exact Rd.text_bad _ _ rfl
  have e7 : r.q7 = Rd.fault := by unfold Rd.q7; rw [e6]; exact Rd.num_bad _ rfl
  have e8 : r.q8 = Rd.fault := by unfold Rd.q8; rw [e7]; exact Rd.num_bad _ rfl
  have e9 : r.q9 = Rd.fault := by unfold Rd.q9; rw [e8]; exact Rd.num_bad _ rfl
  have e10 : r.q10 = Rd.fault := by unfold Rd.q10; rw [e9]; exact Rd.num_bad _ rfl
  unfold Rd.req'
  rw [e10]
  exact Rd.dg_bad _ rfl
theorem Rd.inn_range (r : Rd) (lo hi : Int) (h : lo ≤ 0 ∧ 0 ≤ hi) : lo ≤ r.inn lo hi ∧ r.inn lo hi ≤ hi := by
  unfold Rd.inn Rd.inOk
  split
  · rename_i k
    simp only [Bool.and_eq_true, decide_eq_true_eq] at k
    exact ⟨k.1.2, k.2⟩
  · exact h

structure Rep where
  client : Int
  num : Int
  code : Int
  vals : List Bytes
def Rep.zero : Rep := ⟨0, 0, 0, []⟩
/-- A reply whose texts lie in a slice. -/
def Rep.avS (a : Rep) : AV := .node [.v (.int .i64 a.client), .v (.int .i64 a.num), .v (.int .i64 a.code), .sl 1 (Strs a.vals)]
def Rep.avR (l g : Nat) (a : Rep) : AV := .node [.v (.int .i64 a.client), .v (.int .i64 a.num), .v (.int .i64 a.code), .row l 1 g 0 a.vals.length]
def Rep.bytes (a : Rep) : Bytes := nums [a.client, a.num, a.code, (a.vals.length : Int)] ++ txts a.vals
/-- So many texts. -/
def Rd.tx' (r : Rd) : Nat → Rd
  | 0 => r
  | n + 1 => (r.tx' n).text' 1024
def Rd.tx (r : Rd) : Nat → List Bytes
  | 0 => []
  | n + 1 => r.tx n ++ [(r.tx' n).text 1024]
@[simp] theorem Rd.tx_length (r : Rd) (n : Nat) : (r.tx n).length = n := by
  induction n with
  | zero => rfl
  | succ n ih => simp only [Rd.tx, List.length_append, ih, List.length_cons, List.length_nil]
theorem Rd.tx_sane (r : Rd) (h : r.sane) (n : Nat) : (r.tx' n).sane := by
  cases n with
  | zero => exact h
  | succ n => exact Rd.text_sane _ _
theorem Rd.tx_bad (r : Rd) (k : Nat) (h : (r.tx' k).bad = true) : ∀ n, k ≤ n → (r.tx' n).bad = true := by
  intro n
  induction n with
  | zero => intro hk; rw [show k = 0 by omega] at h; exact h
  | succ n ih =>
    intro hk
    rcases (show k = n + 1 ∨ k ≤ n by omega) with rfl | h1
    · exact h
    · show ((r.tx' n).text' 1024).bad = true
      rw [Rd.text_bad _ _ (ih h1)]
      rfl
def Rd.p1 (r : Rd) : Rd := r.inn' 1 64
def Rd.p2 (r : Rd) : Rd := r.p1.inn' 1 1099511627776
def Rd.p3 (r : Rd) : Rd := r.p2.inn' 0 1024
def Rd.p4 (r : Rd) : Rd := r.p3.inn' 0 256
def Rd.repN (r : Rd) : Nat := (r.p3.inn 0 256).toNat
theorem Rd.repN_eq (r : Rd) : ((r.repN : Nat) : Int) = r.p3.inn 0 256 ∧ r.repN ≤ 256 := by
  have := r.p3.inn_range 0 256 (by omega)
  unfold Rd.repN
  omega
def Rd.rep' (r : Rd) : Rd := r.p4.tx' r.repN
def Rd.rep0 (r : Rd) : Rep := ⟨r.inn 1 64, r.p1.inn 1 1099511627776, r.p2.inn 0 1024, r.p4.tx r.repN⟩
def Rd.rep (r : Rd) : Rep := if r.rep'.bad = true then Rep.zero else r.rep0
theorem Rd.rep_sane (r : Rd) : r.rep'.sane := Rd.tx_sane _ (Rd.inn_sane _ _ _) _
end Go.Proofs.YtmdjimkndeklmaaDoor.WL
