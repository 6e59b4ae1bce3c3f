/-
  CHAPTER 12: blocks, without any program.
-/
import Derived.Test.YtmdjimkndeklmaaDoorM09
namespace Go.Proofs.YtmdjimkndeklmaaDoor.WL
open Go

def Reqs (qs : List Req) : List AV := qs.map Req.av
@[simp] theorem Reqs_length (qs : List Req) : (Reqs qs).length = qs.length := by simp [Reqs]
@[simp] theorem Reqs_closed (qs : List Req) : closeds (Reqs qs) = true := by simp [Reqs, closeds_all]
@[simp] theorem Reqs_plain (qs : List Req) : plains (Reqs qs) = true := by simp [Reqs, plains_all]
@[simp] theorem Reqs_get (n : Nat) (qs : List Req) : (Reqs qs)[n]? = (qs[n]?).map Req.av := by simp [Reqs]
@[simp] theorem Reqs_getElem (n : Nat) (qs : List Req) (h : n < (Reqs qs).length) : (Reqs qs)[n] = (qs[n]'(by simpa using h)).av := by simp [Reqs]
@[simp] theorem Reqs_append (a b : List Req) : Reqs a ++ Reqs b = Reqs (a ++ b) := by simp [Reqs]
@[simp] theorem Reqs_nil : Reqs [] = [] := (rfl)
@[simp] theorem Reqs_drop (n : Nat) (a : List Req) : (Reqs a).drop n = Reqs (a.drop n) := by simp [Reqs]
@[simp] theorem Reqs_take (n : Nat) (a : List Req) : (Reqs a).take n = Reqs (a.take n) := by simp [Reqs]
@[simp] theorem Req.av_sub (q : Req) : sub true 42 q.av 0 = some q.av := by simp [Req.av, Chg.av]
theorem Reqs_one (q : Req) : [q.av] = Reqs [q] := (rfl)
theorem Reqs_snoc (qs : List Req) (q : Req) : Reqs qs ++ [q.av] = Reqs (qs ++ [q]) := by simp [Reqs]
structure Blk where
  epoch : Int
  height : Int
  prev : Dg
  state : Dg
  next : Dg
  qs : List Req
def Blk.zero : Blk := ⟨0, 0, Dg.zero, Dg.zero, Dg.zero, []⟩
def Blk.avS (b : Blk) : AV := .node [.v (.int .i64 b.epoch), .v (.int .i64 b.height), dv b.prev, dv b.state, dv b.next, .sl 42 (Reqs b.qs)]
def Blk.avR (l g : Nat) (b : Blk) : AV := .node [.v (.int .i64 b.epoch), .v (.int .i64 b.height), dv b.prev, dv b.state, dv b.next, .row l 42 g 0 b.qs.length]
def reqsB (qs : List Req) : Bytes := qs.flatMap Req.bytes
def Blk.head (b : Blk) : Bytes := nums [b.epoch, b.height] ++ (flatD [b.prev, b.state, b.next] ++ nums [(b.qs.length : Int)])
def Blk.bytes (b : Blk) : Bytes := b.head ++ reqsB b.qs
theorem Blk.head_len (b : Blk) : b.head.length = 120 := by
  simp [Blk.head, nums_length, flatD]
theorem Blk.bytes_len (b : Blk) : b.bytes.length = 120 + (reqsB b.qs).length := by
  rw [Blk.bytes, List.length_append, Blk.head_len]
theorem reqsB_snoc (qs : List Req) (q : Req) : reqsB (qs ++ [q]) = reqsB qs ++ q.bytes := by simp [reqsB]
theorem reqsB_take (qs : List Req) (i : Nat) (h : i < qs.length) : reqsB (qs.take (i + 1)) = reqsB (qs.take i) ++ qs[i].bytes := by
  rw [List.take_succ_eq_append_getElem h, reqsB_snoc]
theorem reqsB_take_le (qs : List Req) (i : Nat) : (reqsB (qs.take i)).length ≤ (reqsB qs).length := by
  conv => rhs; rw [← List.take_append_drop i qs]
  simp only [reqsB, List.flatMap_append, List.length_append]
  omega
def Blk.good (b : Blk) : Bool := decide (0 ≤ b.epoch) && decide (b.epoch ≤ 1073741824) && decide (1 ≤ b.height) && decide (b.height ≤ 1024) && decide (b.qs.length ≤ 8) && b.qs.all Req.good
/-- Reading. -/
def Rd.b1 (r : Rd) : Rd := r.inn' 0 1073741824
def Rd.b2 (r : Rd) : Rd := r.b1.inn' 1 1024
def Rd.b3 (r : Rd) : Rd := r.b2.dg'
def Rd.b4 (r : Rd) : Rd := r.b3.dg'
def Rd.b5 (r : Rd) : Rd := r.b4.dg'
def Rd.b6 (r : Rd) : Rd := r.b5.inn' 0 8
/-- So many requests. -/
def Rd.rq' (r : Rd) : Nat → Rd
  | 0 => r
  | n + 1 => (r.rq' n).req'
def Rd.rq (r : Rd) : Nat → List Req
  | 0 => []
  | n + 1 => r.rq n ++ [(r.rq' n).req]
@[simp] theorem Rd.rq_length (r : Rd) (n : Nat) : (r.rq n).length = n := by
  induction n with
  | zero => rfl
  | succ n ih => simp only [Rd.rq, List.length_append, ih, List.length_cons, List.length_nil]
theorem Rd.rq_sane (r : Rd) (h : r.sane) (n : Nat) : (r.rq' n).sane := by
  cases n with
  | zero => exact h
  | succ n => exact Rd.req_sane _
theorem Rd.rq_bad (r : Rd) (k : Nat) (h : (r.rq' k).bad = true) : ∀ n, k ≤ n → (r.rq' n).bad = true := by
  intro n
  induction n with
  | zero => intro hk; rw [show k = 0 by omega] at h; exact h
  | succ n ih =>
    intro hk
    rcases (show k = n + 1 ∨ k ≤ n by omega) with rfl | h1
    · exact h
    · show ((r.rq' n).req').bad = true
      rw [Rd.req_bad _ (ih h1)]
      rfl
def Rd.blkN (r : Rd) : Nat := (r.b5.inn 0 8).toNat
theorem Rd.blkN_eq (r : Rd) : ((r.blkN : Nat) : Int) = r.b5.inn 0 8 ∧ r.blkN ≤ 8 := by
  have := r.b5.inn_range 0 8 (by omega)
  unfold Rd.blkN
  omega
def Rd.blk' (r : Rd) : Rd := r.b6.rq' r.blkN
def Rd.blk0 (r : Rd) : Blk := ⟨r.inn 0 1073741824, r.b1.inn 1 1024, r.b2.dg, r.b3.dg, r.b4.dg, r.b6.rq r.blkN⟩
def Rd.blk (r : Rd) : Blk := if r.blk'.bad = true then Blk.zero else r.blk0
theorem Rd.blk_sane (r : Rd) : r.blk'.sane := Rd.rq_sane _ (Rd.inn_sane _ _ _) _
end Go.Proofs.YtmdjimkndeklmaaDoor.WL
