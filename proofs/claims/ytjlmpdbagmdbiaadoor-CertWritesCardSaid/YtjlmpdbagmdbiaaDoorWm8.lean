/- Texts put together: S12a, S12b, L09a, L09b, S12c, S12d, S13a, S08f, S08h, S08i, S08j, S08k, S02a. -/
import Derived.Test.YtjlmpdbagmdbiaaDoorWm7
import Derived.Shelf.SlicesQ.IndexFunc
import Derived.Lib.SliceRun
section
/-
  CHAPTER 12: contracts of blocks.
-/
namespace Go.Proofs.YtjlmpdbagmdbiaaDoor.WL
open Go
set_option maxHeartbeats 4000000
variable {G : Nat → Option AV}

theorem Dgs_3 (a b c : Dg) : [AV.arr 1 (B a.bs), .arr 1 (B b.bs), .arr 1 (B c.bs)] = Dgs [a, b, c] := (rfl)
theorem bgood_meets (b : Blk) : Meets Tryd.prog G fn_block_Good [b.avS] [] true (.v (.bool b.good)) [] := by
  refine meets_of_go mix k_block_Good ⟨by simp, by simp, by simp⟩ ?_
  unfold Blk.good
  by_cases c1 : b.epoch < 0
  · have d1 : ¬ 0 ≤ b.epoch := by omega
    simp [Blk.avS, c1]
    refine post_end (.inr rfl) ?_
    simp [d1]
  by_cases c2 : 1073741824 < b.epoch
  · have d1 : ¬ b.epoch ≤ 1073741824 := by omega
    simp [Blk.avS, c1, c2]
    refine post_end (.inr rfl) ?_
    simp [d1]
  by_cases c3 : b.height < 1
  · have d1 : ¬ 1 ≤ b.height := by omega
    simp [Blk.avS, c1, c2, c3]
    refine post_end (.inr rfl) ?_
    simp [d1]
  by_cases c4 : 1024 < b.height
  · have d1 : ¬ b.height ≤ 1024 := by omega
    simp [Blk.avS, c1, c2, c3, c4]
    refine post_end (.inr rfl) ?_
    simp [d1]
  by_cases c5 : (8 : Int) < (b.qs.length : Nat)
  · have d1 : ¬ b.qs.length ≤ 8 := by omega
    simp [Blk.avS, c1, c2, c3, c4, c5]
    refine post_end (.inr rfl) ?_
    simp [d1]
  have d : (decide (0 ≤ b.epoch) && decide (b.epoch ≤ 1073741824) && decide (1 ≤ b.height) && decide (b.height ≤ 1024) && decide (b.qs.length ≤ 8)) = true := by
    simp only [Bool.and_eq_true, decide_eq_true_eq]; omega
  rw [d, Bool.true_and]
  generalize hqs : b.qs = qs at *
  simp [Blk.avS, c1, c2, c3, c4, c5, hqs]
  refine go_up qs.length (fun j (_ : Unit) => ∀ i (h : i < qs.length), i < j → qs[i].good = true) (fun j (_ : Unit) c => ⟨[(30, .sl 42 (Reqs qs)), (31, .v (.int .i64 (qs.length : Nat))), (32, .v (.int .i64 (j : Nat)))], [], c + 1⟩) () _ (Weak.re (by simp)) (by intro i _ h; omega) ?_ ?_
  · intro j _ c hj hx
    have hw : IntKind.i64.wrap ((j : Int) + 1) = ((j + 1 : Nat) : Int) := w64_succ (by omega)
    have m1 := qgood_meets (G := G) qs[j]
    simp [hj, Req.av, Chg.av]
    refine call_intro m1 ?_ ?_
    · simp [Req.av, Chg.av]
    cases hg : qs[j].good
    · have hf : qs.all Req.good = false := by
        rw [List.all_eq_false]
        exact ⟨qs[j], List.getElem_mem hj, by simp [hg]⟩
      simp
      refine post_end (.inr rfl) ?_
      simp [hf]
    · simp [hw]
      refine ⟨(), _, Weak.re (by simp), ?_⟩
      intro i hi hij
      rcases (show i < j ∨ i = j by omega) with h | rfl
      · exact hx i hi h
      · exact hg
  · intro _ c hx
    have hf : qs.all Req.good = true := by
      rw [List.all_eq_true]
      intro q hq
      obtain ⟨i, hi, rfl⟩ := List.getElem_of_mem hq
      exact hx i hi hi
    simp
    refine post_end (.inr rfl) ?_
    simp [hf]

theorem bwrite_meets (bs : Bytes) (b : Blk) (h : bs.length + b.bytes.length ≤ 60000000) (hn : b.qs.length ≤ 1000000) : Meets Tryd.prog G fn_block_Write [.ptr 1000 0 0, b.avS] (wrM 0 bs) true (.tup []) (wrM 1 (bs ++ b.bytes)) := by
  refine meets_of_go mix k_block_Write ⟨by simp [wrM], by simp, by simp [wrM]⟩ ?_
  have hlen := b.bytes_len
  have hhl := b.head_len
  have hb : bs ++ b.bytes = bs ++ nums [b.epoch, b.height] ++ flatD [b.prev, b.state, b.next] ++ nums [(b.qs.length : Int)] ++ reqsB b.qs := by simp [Blk.bytes, Blk.head]
  have n1 := nums_length [b.epoch, b.height]
  have n2 := nums_length [(b.qs.length : Int)]
  have n3 : (flatD [b.prev, b.state, b.next]).length = 96 := by simp [flatD]
  simp only [List.length_cons, List.length_nil] at n1 n2
  have m1 := wnum_meets (G := G) bs [b.epoch, b.height] (by simp; omega)
  have m2 := wdigest_meets (G := G) (bs ++ nums [b.epoch, b.height]) [b.prev, b.state, b.next] (by rw [List.length_append]; simp; omega)
  have m3 := wnum_meets (G := G) (bs ++ nums [b.epoch, b.height] ++ flatD [b.prev, b.state, b.next]) [(b.qs.length : Int)] (by simp only [List.length_append]; simp; omega)
  have hl3 : (bs ++ nums [b.epoch, b.height] ++ flatD [b.prev, b.state, b.next] ++ nums [(b.qs.length : Int)]).length = bs.length + 120 := by simp only [List.length_append]; omega
  rw [hb]
  generalize bs ++ nums [b.epoch, b.height] ++ flatD [b.prev, b.state, b.next] ++ nums [(b.qs.length : Int)] = y3 at *
  generalize bs ++ nums [b.epoch, b.height] ++ flatD [b.prev, b.state, b.next] = y2 at *
  generalize bs ++ nums [b.epoch, b.height] = y1 at *
  generalize hqs : b.qs = qs at *
  have hI1 : [AV.v (.int .i64 (qs.length : Nat))] = I64 [(qs.length : Int)] := rfl
  simp [Blk.avS, wrM, hqs]
  refine call_intro m1 ?_ ?_
  · simp [wrM, I64_2]
  simp [wrM, I64_2]
  refine call_intro m2 ?_ ?_
  · simp [wrM, Dgs_3, dv]
  simp [wrM, Dgs_3, dv]
  refine call_intro m3 ?_ ?_
  · simp [wrM, hI1]
  simp [wrM, hI1]
  obtain ⟨F, hF⟩ : ∃ F : Nat → Bytes, ∀ i, F i = y3 ++ reqsB (qs.take i) := ⟨_, fun _ => rfl⟩
  have hF0 : y3 = F 0 := by rw [hF]; simp [reqsB]
  have hFN : y3 ++ reqsB qs = F qs.length := by rw [hF, List.take_length]
  have hFl : (F qs.length).length = (F 0).length + (reqsB qs).length := by rw [← hFN, ← hF0, List.length_append]
  rw [hFN]
  simp only [hF0]
  refine go_up qs.length (fun j (_ : Unit) => True) (fun j _ c => ⟨[(0, .ptr 1000 0 0), (29, .sl 42 (Reqs qs)), (30, .v (.int .i64 (qs.length : Nat))), (31, .v (.int .i64 (j : Nat)))], [(1000, .var 0 (.node [.row 2000 1 c 0 (F j).length])), (2000, .rows c 1 (B (F j)))], c + 1⟩) () _ (Weak.re0 1000 (by simp)) trivial ?_ ?_
  · intro j _ c hj _
    have hw : IntKind.i64.wrap ((j : Int) + 1) = ((j + 1 : Nat) : Int) := w64_succ (by omega)
    have hle := reqsB_take_le qs (j + 1)
    rw [reqsB_take qs j hj, List.length_append] at hle
    have hFj : (F j).length = y3.length + (reqsB (qs.take j)).length := by rw [hF, List.length_append]
    have hFs : F j ++ qs[j].bytes = F (j + 1) := by rw [hF, hF, reqsB_take qs j hj, List.append_assoc]
    have m4 := qwrite_meets (G := G) (F j) qs[j] (by omega)
    rw [hFs] at m4
    simp [hj, Req.av, Chg.av]
    refine call_intro m4 ?_ ?_
    · simp [wrM, Req.av, Chg.av]
    simp [wrM, hw, Req.av, Chg.av]
    exact ⟨(), _, Weak.re0 1000 (by simp), trivial⟩
  · intro _ c _
    simp
    refine post_end (.inl rfl) ?_
    simp [hFl]
end Go.Proofs.YtjlmpdbagmdbiaaDoor.WL

end
section
/-
  CHAPTER 12: contracts of blocks: what follows, what is the same; reading.
-/
namespace Go.Proofs.YtjlmpdbagmdbiaaDoor.WL
open Go
set_option maxHeartbeats 4000000
variable {G : Nat → Option AV}

def Blk.follows (b : Blk) (e h : Int) (p s : Dg) : Bool := b.good && (decide (b.epoch = e) && decide (b.height = h) && decide (b.prev = p) && decide (b.state = s))
end Go.Proofs.YtjlmpdbagmdbiaaDoor.WL

end
section
/-
  CHAPTER 09: walks of laws.
-/
namespace Go.Proofs.YtjlmpdbagmdbiaaDoor.WL
open Go
set_option maxHeartbeats 4000000
variable {G : Nat → Option AV}

def Req.put : Req := ⟨1, 1, 2, [107], [118], [], Chg.zero⟩
def lenSum (ss : List Bytes) : Nat := (ss.map List.length).sum
theorem lenSum_snoc (ss : List Bytes) (j : Nat) (h : j < ss.length) : lenSum (ss.take (j + 1)) = lenSum (ss.take j) + ss[j].length := by
  unfold lenSum
  rw [take_snoc _ _ h]
  simp only [List.map_append, List.sum_append, List.map_cons, List.map_nil, List.sum_cons, List.sum_nil, Nat.add_zero]
theorem lenSum_le (ss : List Bytes) (j : Nat) : lenSum (ss.take j) ≤ lenSum ss := by
  conv => rhs; rw [← List.take_append_drop j ss]
  simp only [lenSum, List.map_append, List.sum_append]
  omega
end Go.Proofs.YtjlmpdbagmdbiaaDoor.WL

end
section
/-
  CHAPTER 09: walks of laws: reading.
-/
namespace Go.Proofs.YtjlmpdbagmdbiaaDoor.WL
open Go
set_option maxHeartbeats 4000000
variable {G : Nat → Option AV}

deriving instance DecidableEq for Chg, Req
end Go.Proofs.YtjlmpdbagmdbiaaDoor.WL

end
section
/-
  CHAPTER 12: contracts of the reference: what is great, what can be, what is the same.
-/
namespace Go.Proofs.YtjlmpdbagmdbiaaDoor.WL
open Go
set_option maxHeartbeats 4000000
variable {G : Nat → Option AV}

def Blk.great (b : Blk) (m : Nat) : Bool := decide (40 < b.qs.length) || decide (m < (reqsB b.qs).length)
theorem rep3 (z a b c : AV) : (((rep 3 z).set 0 a).set 1 b).set 2 c = [a, b, c] := (rfl)
theorem bgreat_meets (b : Blk) (m : Nat) (hm : m ≤ 1000000) (hf : ∀ q ∈ b.qs, q.key.length ≤ reachBytes ∧ q.val.length ≤ reachBytes ∧ q.old.length ≤ reachBytes) :
    Meets Tryd.prog G fn_r12_Great [b.avS, .v (.int .i64 (m : Nat))] [] true (.v (.bool (b.great m))) [] := by
  refine meets_of_go mix k_r12_Great ⟨by simp, by simp, by simp⟩ ?_
  unfold Blk.great
  generalize hqs : b.qs = qs at *
  by_cases c1 : (40 : Int) < (qs.length : Nat)
  · have d1 : 40 < qs.length := by omega
    simp [Blk.avS, hqs, c1]
    refine post_end (.inr rfl) ?_
    simp [d1]
  have d1 : ¬ 40 < qs.length := by omega
  simp [Blk.avS, hqs, c1]
  refine go_up qs.length (fun j (n : Nat) => n = (reqsB (qs.take j)).length ∧ n ≤ m) (fun j n c => ⟨[(1, .v (.int .i64 (m : Nat))), (5, .v (.int .i64 (n : Nat))), (15, .sl 42 (Reqs qs)), (16, .v (.int .i64 (qs.length : Nat))), (17, .v (.int .i64 (j : Nat)))], [], c + 1⟩) 0 _ (Weak.re (by simp)) (by simp [reqsB]) ?_ ?_
  · rintro j n c hj ⟨hn, hn2⟩
    have hw : IntKind.i64.wrap ((j : Int) + 1) = ((j + 1 : Nat) : Int) := w64_succ (by omega)
    have hle := reqsB_take_le qs (j + 1)
    rw [reqsB_take qs j hj, List.length_append, Req.bytes_len] at hle
    have hs : (reqsB (qs.take (j + 1))).length = n + (100 + (qs[j].key.length + qs[j].val.length + qs[j].old.length)) := by rw [reqsB_take qs j hj, List.length_append, Req.bytes_len, hn]
    rw [← hn] at hle
    obtain ⟨f1, f2, f3⟩ := hf qs[j] (List.getElem_mem hj)
    unfold reachBytes at f1 f2 f3
    have w1 : IntKind.i64.wrap ((n : Int) + 100) = ((n + 100 : Nat) : Int) := by rw [w64_id (by omega)]; omega
    simp [hj, w1, rep3, Req.av, Chg.av]
    generalize qs[j] = q at *
    obtain ⟨ls, hls⟩ : ∃ ls, ls = [q.key, q.val, q.old] := ⟨_, rfl⟩
    have hL : [AV.v (.string (mkS q.key)), .v (.string (mkS q.val)), .v (.string (mkS q.old))] = Strs ls := by rw [hls]; rfl
    rw [hL]
    have hll : ls.length = 3 := by rw [hls]; rfl
    have hsum : lenSum ls = q.key.length + q.val.length + q.old.length := by rw [hls]; simp [lenSum]; omega
    have hfl : ∀ (t : Nat) (h : t < ls.length), ls[t].length ≤ 140737488355328 := by
      intro t h
      have := List.getElem_mem h
      generalize ls[t] = x at *
      rw [hls] at this
      simp at this
      rcases this with rfl | rfl | rfl <;> omega
    refine go_up 3 (fun t (p : Nat) => p = n + 100 + lenSum (ls.take t) ∧ (t = 0 ∨ p ≤ m)) (fun t p c => ⟨[(1, .v (.int .i64 (m : Nat))), (5, .v (.int .i64 (p : Nat))), (15, .sl 42 (Reqs qs)), (16, .v (.int .i64 (qs.length : Nat))), (17, .v (.int .i64 (j : Nat))), (32, .arr 1 (Strs ls)), (33, .v (.int .i64 (t : Nat)))], [], c + 1⟩) (n + 100) _ (Weak.re (by simp)) (by simp [lenSum]) ?_ ?_
    · rintro t p c' ht ⟨hp, hp2⟩
      have hw' : IntKind.i64.wrap ((t : Int) + 1) = ((t + 1 : Nat) : Int) := w64_succ (by omega)
      have ht3 : (t : Int) < 3 := by omega
      have htl : t < ls.length := by omega
      have hs1 := lenSum_snoc ls t htl
      have hl1 := lenSum_le ls (t + 1)
      have hr := hfl t htl
      obtain ⟨s, hs2⟩ : ∃ s, s = p + ls[t].length := ⟨_, rfl⟩
      have w2 : IntKind.i64.wrap ((p : Int) + (ls[t].length : Nat)) = (s : Int) := by rw [w64_id (by omega)]; omega
      by_cases c2 : (m : Int) < (s : Int)
      · have d2 : m < (reqsB qs).length := by omega
        simp [ht, ht3, hll, htl, w2, c2]
        refine post_end (.inr rfl) ?_
        simp [d2]
      · simp [ht, ht3, hll, htl, w2, c2, hw']
        exact ⟨s, _, Weak.re (by simp), by omega, by omega⟩
    · rintro p c' ⟨hp, hp2⟩
      rw [List.take_of_length_le (by omega)] at hp
      simp [hw]
      exact ⟨p, _, Weak.re (by simp), by omega, by omega⟩
  · rintro n c ⟨hn, hn2⟩
    rw [List.take_length] at hn
    have c2 : ¬ (m : Int) < (n : Int) := by omega
    have d2 : ¬ m < (reqsB qs).length := by omega
    simp [c2]
    refine post_end (.inr rfl) ?_
    simp [d1, d2]
end Go.Proofs.YtjlmpdbagmdbiaaDoor.WL

end
section
/-
  CHAPTER 12: contracts of the reference: what can be, what is the same.
-/
namespace Go.Proofs.YtjlmpdbagmdbiaaDoor.WL
open Go
set_option maxHeartbeats 4000000
variable {G : Nat → Option AV}

def Blk.same (a b : Blk) : Bool := decide (a.epoch = b.epoch) && decide (a.height = b.height) && decide (a.prev = b.prev) && decide (a.state = b.state) && decide (a.next = b.next) && decide (a.qs = b.qs)
end Go.Proofs.YtjlmpdbagmdbiaaDoor.WL

end
section
/-
  CHAPTER 13: contracts of votes and plans, written and read.
-/
namespace Go.Proofs.YtjlmpdbagmdbiaaDoor.WL
open Go
set_option maxHeartbeats 4000000
variable {G : Nat → Option AV}
attribute [local irreducible] sha
attribute [local irreducible] Rd.sig Rd.sig' Rd.blk Rd.blk' Rd.inn Rd.inn' Rd.dg Rd.dg' Rd.rep Rd.rep' repR

theorem I64_5 (a b c d e : Int) : [AV.v (.int .i64 a), .v (.int .i64 b), .v (.int .i64 c), .v (.int .i64 d), .v (.int .i64 e)] = I64 [a, b, c, d, e] := (rfl)
theorem Dgs_1' (a : Dg) : [dv a] = Dgs [a] := (rfl)

/-! What is read is its own, and stays. -/
theorem kread_frz (r : Rd) : Meets Tryd.prog G fn_keys_Read [.ptr 1000 0 0] (rdM 0 r) false r.sig.avS (rdM 1 r.sig') := by
  refine (kread_meets r).freeze ⟨by simp [rdM], by simp [rdM], by simp [rdM]⟩ ?_
  simp [rdM, Sig.avR, Sig.avS, Sig.rows]
theorem vhead_meets (bs : Bytes) (v : Vote) (h : bs.length ≤ 50000000) : Meets Tryd.prog G fn_vote_head [.ptr 1000 0 0, v.av] (wrM 0 bs) true (.tup []) (wrM 1 (bs ++ v.head)) := by
  refine meets_of_go mix k_vote_head ⟨by simp [wrM], by simp, by simp [wrM]⟩ ?_
  have m1 := wnum_meets (G := G) bs [v.kind, v.epoch, v.height, v.round, v.src] (by simp; omega)
  have m2 := wdigest_meets (G := G) (bs ++ nums [v.kind, v.epoch, v.height, v.round, v.src]) [v.dg] (by rw [List.length_append, nums_length]; simp; omega)
  have hb : bs ++ v.head = bs ++ nums [v.kind, v.epoch, v.height, v.round, v.src] ++ flatD [v.dg] := by simp [Vote.head, flatD]
  rw [hb]
  generalize bs ++ nums [v.kind, v.epoch, v.height, v.round, v.src] ++ flatD [v.dg] = y2 at *
  generalize bs ++ nums [v.kind, v.epoch, v.height, v.round, v.src] = y1 at *
  simp [wrM, Vote.av]
  refine call_intro m1 ?_ ?_
  · simp [wrM, I64_5]
  simp [wrM, I64_5]
  refine call_intro m2 ?_ ?_
  · simp [wrM, Dgs_1', dv]
  simp [wrM, Dgs_1', dv]
  refine post_end (.inl rfl) ?_
  simp
theorem vwrite_bad (bs : Bytes) (v : Vote) (hk : v.sig.ok = false) : Meets Tryd.prog G fn_vote_Write [.ptr 1000 0 0, v.av] (wrM 0 bs) true (.v (.bool false)) (wrM 1 bs) := by
  refine meets_of_go mix k_vote_Write ⟨by simp [wrM], by simp, by simp [wrM]⟩ ?_
  have m1 := kwrite_bad (G := G) [] v.sig hk
  simp [wrM, Vote.av]
  refine call_intro m1 ?_ ?_
  · simp [wrM]
  simp [wrM]
  refine post_end (.inr rfl) ?_
  simp
theorem vwrite_meets (bs : Bytes) (v : Vote) (hk : v.sig.ok = true) (h : bs.length ≤ 40000000) : Meets Tryd.prog G fn_vote_Write [.ptr 1000 0 0, v.av] (wrM 0 bs) true (.v (.bool true)) (wrM 1 (bs ++ voteF.wr v)) := by
  refine meets_of_go mix k_vote_Write ⟨by simp [wrM], by simp, by simp [wrM]⟩ ?_
  have m1 := kwrite_meets (G := G) [] v.sig hk (by simp)
  have m2 := vhead_meets (G := G) bs v (by omega)
  have hl : v.head.length = 72 := by simp [Vote.head, nums_length]
  have m3 := kwrite_meets (G := G) (bs ++ v.head) v.sig hk (by rw [List.length_append]; omega)
  rw [List.append_assoc, ← voteF_wr] at m3
  generalize bs ++ voteF.wr v = y2 at *
  generalize bs ++ v.head = y1 at *
  generalize [] ++ v.sig.bytes = y0 at *
  simp [wrM, Vote.av]
  refine call_intro m1 ?_ ?_
  · simp [wrM]
  simp [wrM]
  refine call_intro m2 ?_ ?_
  · simp [wrM, Vote.av]
  simp [wrM, Vote.av]
  refine call_intro m3 ?_ ?_
  · simp [wrM]
  simp [wrM]
  refine post_end (.inr rfl) ?_
  simp

theorem vread_meets (r : Rd) : Meets Tryd.prog G fn_vote_Read [.ptr 1000 0 0] (rdM 0 r) false (voteF.rd r).av (rdM 1 (voteF.rd' r)) := by
  refine meets_of_go mix k_vote_Read ⟨by simp [rdM], by simp [rdM], by simp [rdM]⟩ ?_
  rw [voteF_rd, voteF_rd']
  have m1 := in_meets (G := G) r 1 2
  generalize r.inn 1 2 = a1 at *
  generalize r.inn' 1 2 = r1 at *
  have m2 := in_meets (G := G) r1 0 1073741824
  generalize r1.inn 0 1073741824 = a2 at *
  generalize r1.inn' 0 1073741824 = r2 at *
  have m3 := in_meets (G := G) r2 1 1024
  generalize r2.inn 1 1024 = a3 at *
  generalize r2.inn' 1 1024 = r3 at *
  have m4 := in_meets (G := G) r3 0 1024
  generalize r3.inn 0 1024 = a4 at *
  generalize r3.inn' 0 1024 = r4 at *
  have m5 := in_meets (G := G) r4 1 63
  generalize r4.inn 1 63 = a5 at *
  generalize r4.inn' 1 63 = r5 at *
  have m6 := digest_meets (G := G) r5
  generalize r5.dg = a6 at *
  generalize r5.dg' = r6 at *
  have m7 := kread_frz (G := G) r6
  generalize r6.sig = a7 at *
  generalize r6.sig' = r7 at *
  have m8 := good_meets (G := G) r7
  simp [rdM]
  refine call_intro m1 ?_ ?_
  · simp [rdM]
  simp [rdM]
  refine call_intro m2 ?_ ?_
  · simp [rdM]
  simp [rdM]
  refine call_intro m3 ?_ ?_
  · simp [rdM]
  simp [rdM]
  refine call_intro m4 ?_ ?_
  · simp [rdM]
  simp [rdM]
  refine call_intro m5 ?_ ?_
  · simp [rdM]
  simp [rdM]
  refine call_intro m6 ?_ ?_
  · simp [rdM]
  simp [rdM]
  refine call_intro m7 ?_ ?_
  · simp [rdM]
  simp [rdM]
  refine call_intro m8 ?_ ?_
  · simp [rdM]
  simp [rdM]
  cases hb : r7.bad
  · simp [rdM, hb]
    refine post_end (.inr rfl) ?_
    simp [Vote.av, hb, dv]
  · simp [rdM, hb]
    refine post_end (.inr rfl) ?_
    simp [Vote.av, Vote.zero, Sig.avS, Sig.zero, hb, dv]
end Go.Proofs.YtjlmpdbagmdbiaaDoor.WL

end
section
/-
  CHAPTER 08: the contract of Find, whose test is a function value.
-/
namespace Go.Proofs.YtjlmpdbagmdbiaaDoor.WL
open Go Go.Proofs Go.Shelf Go.RowKit Go.Lib

def rhoIx : Ren := ⟨fun x => if x = 6 then 123 else x, fun x => if x = 22 then 22 else if x = 23 then 89 else if x = 25 then 129 else if x = 3 then 3 else if x = 4 then 4 else x, fun x => x⟩
theorem layIx : SlLaysH0.n6 Tryd.prog rhoIx where
  mixed := mix
  f6 := ⟨Tryd.f123.name, by kernel_rfl, by kernel_rfl⟩
  t0 := by kernel_rfl
  a0 := fun w => run_tagg (by kernel_rfl) w
  z0 := fun w => run_tsz (by kernel_rfl) w
  v0 := fun _ => by kernel_rfl
  t3 := by kernel_rfl
  a3 := fun w => run_tagg (by kernel_rfl) w
  z3 := fun w => run_tsz (by kernel_rfl) w
  v3 := fun _ => by kernel_rfl
  t4 := by kernel_rfl
  a4 := fun w => run_tagg (by kernel_rfl) w
  z4 := fun w => run_tsz (by kernel_rfl) w
  v4 := fun _ => by kernel_rfl
  t22 := by kernel_rfl
  a22 := fun w => run_tagg (by kernel_rfl) w
  z22 := fun w => run_tsz (by kernel_rfl) w
  v22 := fun _ => by kernel_rfl
  t25 := by kernel_rfl
  a25 := fun w => run_tagg (by kernel_rfl) w
  z25 := fun w => run_tsz (by kernel_rfl) w
  v25 := fun _ => by kernel_rfl

/-- A member's cells. -/
def encMem (m : Mem) : List Value := .int .i64 m.id :: (m.root.bs.map (fun b => Value.int .u8 (b.toNat : Int)) ++ [.int .i64 m.height])
theorem encMem_len (m : Mem) : (encMem m).length = 34 := by simp [encMem]
theorem predId (id : Int) (B : Nat) (w : World) (hB : B < w.heap.size) (hcell : w.cell? ⟨B, 0, none⟩ = some (.int .i64 id)) :
    PredBelow Tryd.prog 124 #[.pointer (some ⟨B, 0, none⟩)] (fun m : Mem => .agg (encMem m).toArray) (fun m => decide (m.id = id)) w := fun W x hb => by
  have hc : W.cell? ⟨B, 0, none⟩ = some (.int .i64 id) := (hb.cell (p := ⟨B, 0, none⟩) hB).trans hcell
  have hBW : B < W.heap.size := Nat.lt_of_lt_of_le hB hb.size
  have hne : B ≠ W.heap.size := by omega
  show Calls Tryd.prog 124 #[.agg (encMem x).toArray, .pointer (some ⟨B, 0, none⟩)] W _
  have he : (encMem x).toArray = (Value.int .i64 x.id :: (x.root.bs.map (fun b => Value.int .u8 (b.toNat : Int)) ++ [.int .i64 x.height])).toArray := rfl
  rw [he]
  generalize (x.root.bs.map (fun b => Value.int .u8 (b.toNat : Int)) ++ [Value.int .i64 x.height]) = rest
  go_enter Tryd.func124, Tryd.ntmps124
  go_wp2
  all_goals (go_ret; exact ⟨by simp_all; rw [Bool.eq_iff_iff]; simp, hb.alloc hb.size _⟩)

instance : Inhabited Mem := ⟨⟨0, Dg.zero, 0⟩⟩
/-- Which member it is; -1: none. -/
def idxOf (ms : List Mem) (id : Int) : Int := Lib.idxBy (fun _ y : Mem => decide (y.id = id)) ms default
theorem idxOf_case (ms : List Mem) (id : Int) : (idxOf ms id = -1) ∨ ∃ k : Nat, k < ms.length ∧ idxOf ms id = (k : Int) := by
  by_cases h : ∃ k, k < ms.length ∧ (ms[k]!).id = id
  · right
    obtain ⟨k, hk, hm⟩ : ∃ k, k < ms.length ∧ (ms[k]!).id = id ∧ ∀ j, j < k → (ms[j]!).id ≠ id := by
      obtain ⟨k, hk, hid⟩ := h
      induction k using Nat.strongRecOn with
      | ind k ih =>
        by_cases hj : ∃ j, j < k ∧ (ms[j]!).id = id
        · obtain ⟨j, hjk, hjid⟩ := hj
          exact ih j hjk (by omega) hjid
        · exact ⟨k, hk, hid, fun j hjk hjid => hj ⟨j, hjk, hjid⟩⟩
    refine ⟨k, hk, ?_⟩
    have := Lib.idxBy_hit (fun _ y : Mem => decide (y.id = id)) ms ms.length k default hk (Nat.le_refl _) (decide_eq_true hm.1) (fun j hj => decide_eq_false (hm.2 j hj))
    rwa [List.take_length] at this
  · left
    have := Lib.idxBy_miss (fun _ y : Mem => decide (y.id = id)) ms ms.length default (fun j hj => by
      simp only [decide_eq_false_iff_not]
      exact fun hid => h ⟨j, hj, hid⟩)
    rwa [List.take_length] at this
theorem index_calls (id : Int) (b off cap B : Nat) (ms : List Mem) (w : World) (hbig : ms.length ≤ 9223372036854775807) (hb : b < w.heap.size) (hB : B < w.heap.size) (hid : w.cell? ⟨B, 0, none⟩ = some (.int .i64 id))
    (hc : ∀ j, j < ms.length → ∀ i v, (encMem ms[j]!)[i]? = some v → w.cell? ⟨b, off + j * 34 + i, none⟩ = some v) :
    Calls Tryd.prog 123 #[.slice (some ⟨b, off, none⟩) ms.length cap, .func (.func 124) #[] #[.pointer (some ⟨B, 0, none⟩)]] w fun ex w' => ex = .returned (.int .i64 (idxOf ms id)) ∧ Below w.heap.size w w' := by
  have eg : ∀ args w, (callFunc 124 args).run Tryd.prog w = .ok (.enter 124 args) w := enters_of Tryd.func124 (by kernel_rfl) rfl
  have h := AnyQ.slices_IndexFunc layIx 34 (fun w => run_tagg (by kernel_rfl) w) (fun w => run_tsz (by kernel_rfl) w) encMem encMem_len (fun y : Mem => decide (y.id = id)) 124 #[.pointer (some ⟨B, 0, none⟩)] eg b off ms.length cap ms w
    (predId id B w hB hid) (Nat.le_refl _) hbig hb hc
  rw [List.take_length] at h
  exact h
end Go.Proofs.YtjlmpdbagmdbiaaDoor.WL

end
section
/-
  CHAPTER 08: the contract of Find, last part.
-/
namespace Go.Proofs.YtjlmpdbagmdbiaaDoor.WL
open Go
set_option maxHeartbeats 4000000

theorem Es_B {C : Ctx} : ∀ (bs : Bytes) (cs : List Value), Es C 1 (B bs) cs → cs = bs.map (fun b => Value.int .u8 (b.toNat : Int))
  | [], cs, h => by simpa [B, Es] using h
  | b :: bs, cs, h => by
    have h' : Es C 1 (bv b :: B bs) cs := h
    simp only [Es] at h'
    obtain ⟨c1, c2, rfl, _, h1, h2⟩ := h'
    simp only [bv, V] at h1
    rw [h1.1, Es_B bs c2 h2]
    rfl
theorem V_mem {C : Ctx} {m : Mem} {cs : List Value} (h : V C m.av cs) : cs = encMem m := by
  simp only [Mem.av, V, Vs, dv] at h
  obtain ⟨c1, r1, rfl, ⟨rfl, _⟩, c2, r2, rfl, ⟨c3, r3, rfl, h3, c4, r4, rfl, ⟨rfl, _⟩, rfl⟩, rfl⟩ := h
  rw [Es_B m.root.bs c3 h3]
  simp [encMem]
theorem Es_mems {C : Ctx} : ∀ (ms : List Mem) (cs : List Value), Es C 34 (Mems ms) cs → ∀ j (hj : j < ms.length) i v, (encMem ms[j])[i]? = some v → cs[j * 34 + i]? = some v := by
  intro ms cs h j hj i v hv
  have hg := Es_get (i := j) (x := (ms[j]).av) h (by simp [hj])
  have e := V_mem hg.1
  rw [← e] at hv
  have hi : i < 34 := by
    have := (List.getElem?_eq_some_iff.1 hv).1
    rw [hg.2] at this
    exact this
  rw [List.getElem?_take_of_lt hi, List.getElem?_drop] at hv
  exact hv

def c_find_r0 : List COper := [⟨some 2, .box, [.t 0], none⟩, ⟨some 3, .box, [.t 1], none⟩, ⟨some 4, .alloc (.node [.v (.int .i64 0), .node [.arr 1 (rep 32 (.v (.int .u8 0))), .v (.int .i64 0)]]), [], none⟩, ⟨some 5, .mov, [.c (.int .i64 0)], none⟩, ⟨some 6, .mov, [.c (.bool false)], none⟩]
def c_find_r2 : List COper := [⟨some 12, .mov, [.t 7], none⟩, ⟨some 13, .bin .lss, [.t 12, .c (.int .i64 0)], none⟩]
def c_find_r3 : List COper := [⟨some 14, .build [.v (.int .i64 0), .node [.arr 1 (rep 32 (.v (.int .u8 0))), .v (.int .i64 0)]] [], [], none⟩, ⟨none, .store true 34, [.t 4, .t 14], none⟩, ⟨some 5, .mov, [.c (.int .i64 0)], none⟩, ⟨some 6, .mov, [.c (.bool false)], none⟩]
def c_find_r4 : List COper := [⟨some 15, .faddr 1 1 false, [.t 2], none⟩, ⟨some 16, .load false 1, [.t 15], none⟩, ⟨some 17, .mov, [.t 7], none⟩, ⟨some 18, .iaddr 34, [.t 16, .t 17], none⟩, ⟨some 19, .load true 34, [.t 18], none⟩, ⟨some 20, .mov, [.t 7], none⟩, ⟨none, .store true 34, [.t 4, .t 19], none⟩, ⟨some 5, .mov, [.t 20], none⟩, ⟨some 6, .mov, [.c (.bool true)], none⟩]
def c_find_rest : CCode := .seq (.seq (.region c_find_r2 none [2, 4, 7, 13]) (.cond (.t 13) (.seq (.region c_find_r3 none [4, 5, 6]) .ret) .skip)) (.seq (.region c_find_r4 none [4, 5, 6]) .ret)
instance : Reg c_find_r0 [⟨some 2, .box, [.t 0], none⟩, ⟨some 3, .box, [.t 1], none⟩, ⟨some 4, .alloc (.node [.v (.int .i64 0), .node [.arr 1 (rep 32 (.v (.int .u8 0))), .v (.int .i64 0)]]), [], none⟩, ⟨some 5, .mov, [.c (.int .i64 0)], none⟩, ⟨some 6, .mov, [.c (.bool false)], none⟩] 5 := ⟨rfl, rfl⟩
instance : Reg c_find_r2 [⟨some 12, .mov, [.t 7], none⟩, ⟨some 13, .bin .lss, [.t 12, .c (.int .i64 0)], none⟩] 2 := ⟨rfl, rfl⟩
instance : Reg c_find_r3 [⟨some 14, .build [.v (.int .i64 0), .node [.arr 1 (rep 32 (.v (.int .u8 0))), .v (.int .i64 0)]] [], [], none⟩, ⟨none, .store true 34, [.t 4, .t 14], none⟩, ⟨some 5, .mov, [.c (.int .i64 0)], none⟩, ⟨some 6, .mov, [.c (.bool false)], none⟩] 4 := ⟨rfl, rfl⟩
instance : Reg c_find_r4 [⟨some 15, .faddr 1 1 false, [.t 2], none⟩, ⟨some 16, .load false 1, [.t 15], none⟩, ⟨some 17, .mov, [.t 7], none⟩, ⟨some 18, .iaddr 34, [.t 16, .t 17], none⟩, ⟨some 19, .load true 34, [.t 18], none⟩, ⟨some 20, .mov, [.t 7], none⟩, ⟨none, .store true 34, [.t 4, .t 19], none⟩, ⟨some 5, .mov, [.t 20], none⟩, ⟨some 6, .mov, [.c (.bool true)], none⟩] 9 := ⟨rfl, rfl⟩
noncomputable def seqL : Code → Code
  | .seq a _ => a
  | c => c
noncomputable def seqR : Code → Code
  | .seq _ b => b
  | c => c
noncomputable def regOps : Code → Array Oper
  | .region _ ops _ => ops
  | _ => #[]
noncomputable def findBody : Code := match Tryd.f89.body with
  | some c => c
  | none => .skip
theorem find_body : Tryd.f89.body = some findBody := by kernel_rfl
theorem find_seq : findBody = .seq (seqL findBody) (.seq (.region 1 (regOps (seqL (seqR findBody))) false) (seqR (seqR findBody))) := by kernel_rfl
theorem find_chk0 : chkCode Tryd.prog 21 (seqL findBody) (.region c_find_r0 none [2, 3, 4, 5, 6]) = true := by kernel_rfl
theorem find_chk1 : chkCode Tryd.prog 21 (seqR (seqR findBody)) c_find_rest = true := by kernel_rfl
theorem find_ops0 : chkOper Tryd.prog (regOps (seqL (seqR findBody))) 21 ((regOps (seqL (seqR findBody)))[0]!) ⟨some 8, .faddr 1 1 false, [.t 2], none⟩ = true := by kernel_rfl
theorem find_ops1 : chkOper Tryd.prog (regOps (seqL (seqR findBody))) 21 ((regOps (seqL (seqR findBody)))[1]!) ⟨some 9, .load false 1, [.t 8], none⟩ = true := by kernel_rfl
theorem find_ops4 : chkOper Tryd.prog (regOps (seqL (seqR findBody))) 21 ((regOps (seqL (seqR findBody)))[4]!) ⟨some 7, .mov, [.t 11], none⟩ = true := by kernel_rfl
theorem find_opsn : (regOps (seqL (seqR findBody))).size = 5 := by kernel_rfl
end Go.Proofs.YtjlmpdbagmdbiaaDoor.WL

end
section
/-
  CHAPTER 08: the region in Find that makes the test and asks IndexFunc.
-/
namespace Go.Proofs.YtjlmpdbagmdbiaaDoor.WL
open Go Go.Proofs Go.Shelf Go.RowKit Go.Lib
set_option maxHeartbeats 4000000

noncomputable def opsF : Array Oper := regOps (seqL (seqR findBody))
theorem opsF_two : opsF[2]? = some ⟨some 10, .makeFunc (.func 124) #[] #[.tmp 3], 129, "config.go:46", #[], none⟩ := by kernel_rfl
theorem opsF_three : ∃ t p af at', opsF[3]? = some ⟨some 11, .call { callee := .value (.func 123), args := #[.tmp 9, .tmp 10], argTypes := at' }, t, p, af, none⟩ := by
  have h : opsF[3]? = some (opsF[3]!) := by kernel_rfl
  have h2 : opsF[3]! = ⟨some 11, .call { callee := .value (.func 123), args := #[.tmp 9, .tmp 10], argTypes := #[22, 129] }, (opsF[3]!).type, (opsF[3]!).pos, (opsF[3]!).after, none⟩ := by kernel_rfl
  exact ⟨_, _, _, _, h.trans (congrArg some h2)⟩
theorem opsF_zero : opsF[0]? = some (opsF[0]!) := by kernel_rfl
theorem opsF_one : opsF[1]? = some (opsF[1]!) := by kernel_rfl
theorem opsF_four : opsF[4]? = some (opsF[4]!) := by kernel_rfl

section
variable {w0 : World} {Ws I0 : Nat → Prop} {G : Nat → Option AV} {C0 C : Ctx}

theorem grown_of_below {w w' : World} (h : Below w.heap.size w w') : w.grownBy w' none := ⟨h.os, h.tape, h.output, h.size, fun k hk _ => h.block k hk⟩

/-- What the slots hold when the call comes. -/
theorem find_call {c : Conf} {id : Int} (hms : c.ms ≠ []) {g3 clk : Nat} {s : AS} {a : Act} {rem : List Nat} {Q : Exit → Act → World → Prop} {K : Act → World → Prop}
    (hm : Mid w0 Ws I0 G C0 21 clk (clk + 5) rem s a C) (h9 : s.1 9 = some (.sl 34 (Mems c.ms))) (h3 : s.1 3 = some (.ptr 3 g3 0)) (m3 : s.2 3 = some (.var g3 (.v (.int .i64 id))))
    (hK : ∀ a' C', Mid w0 Ws I0 G C0 21 clk (clk + 5) rem (upd (upd s.1 10 none) 11 (some (.v (.int .i64 (idxOf c.ms id)))), s.2) a' C' → K a' C'.w) :
    wpOp Tryd.prog opsF Q 2 (wpOp Tryd.prog opsF Q 3 K) a C.w := by
  obtain ⟨y3, e3, v3⟩ := hm.fr 3 _ h3
  obtain ⟨y9, e9, v9⟩ := hm.fr 9 _ h9
  obtain ⟨p3, q3, _, r3⟩ := v3
  obtain rfl : y3 = .pointer (some p3) := by simpa using q3
  have hmm : C.m 3 = some (.var g3 (.v (.int .i64 id))) := by rw [hm.m]; exact m3
  obtain ⟨B, hB, rfl⟩ := r3 _ hmm
  obtain ⟨b', cur, T, k1, k2, k3⟩ := hm.wr.locs 3 _ hmm
  obtain rfl : B = b' := by rw [hB] at k1; exact Option.some.inj k1
  simp only [V] at k3
  have hcell : C.w.cell? ⟨B, 0, none⟩ = some (.int .i64 id) := by
    have hcur : cur = #[.int .i64 id] := Array.ext' k3.1
    simp [World.cell?, k2, hcur]
  have hBw := (hm.wr.own 3 _ B hmm hB).1
  obtain ⟨ao, cap, body, q9, hlen, hcap, hes, hbk⟩ := v9
  have hmx : maxLen ≤ 9223372036854775807 := by simp [maxLen]
  obtain rfl : y9 = .slice ao (Mems c.ms).length cap := by simpa using q9
  obtain ⟨b, o, rfl, hIb, hcs⟩ := hbk.resolve_left (by intro h; apply hms; cases hc : c.ms with | nil => rfl | cons x l => rw [hc] at h; cases h)
  have hbw := (hm.wr.imm b hIb).1
  unfold wpOp
  rw [opsF_two]
  simp only
  rw [if_pos (by rfl)]
  left
  unfold Oper.wp
  have run2 : (execOp a.eval ⟨some 10, .makeFunc (.func 124) #[] #[.tmp 3], 129, "config.go:46", #[], none⟩).run Tryd.prog C.w = .ok (.value (.func (.func 124) #[] #[.pointer (some ⟨B, 0, none⟩)])) C.w := by
    have e : a.eval (.tmp 3) = .pointer (some ⟨B, 0, none⟩) := by
      show a.tmps.getD 3 undef = _
      rw [Array.getD_eq_getD_getElem?, e3]; rfl
    simp [execOp, Instr.makeFunc, e]
  rw [run2, Oper.upon_value]
  obtain ⟨t, p, af, at', h3'⟩ := opsF_three
  rw [h3']
  simp only
  rw [if_pos (by rfl)]
  left
  have hsz := hm.size
  have run3 : (execOp (a.put (some 10) (.func (.func 124) #[] #[.pointer (some ⟨B, 0, none⟩)])).eval ⟨some 11, .call { callee := .value (.func 123), args := #[.tmp 9, .tmp 10], argTypes := at' }, t, p, af, none⟩).run Tryd.prog C.w
      = .ok (.enter 123 #[.slice (some ⟨b, o, none⟩) (Mems c.ms).length cap, .func (.func 124) #[] #[.pointer (some ⟨B, 0, none⟩)]]) C.w := by
    have e9' : (a.put (some 10) (.func (.func 124) #[] #[.pointer (some ⟨B, 0, none⟩)])).eval (.tmp 9) = .slice (some ⟨b, o, none⟩) (Mems c.ms).length cap := by
      show Array.getD _ 9 undef = _
      rw [Array.getD_eq_getD_getElem?]
      simp only [Act.put]
      rw [Array.getElem?_setIfInBounds_ne (by decide), e9]; rfl
    have e10 : (a.put (some 10) (.func (.func 124) #[] #[.pointer (some ⟨B, 0, none⟩)])).eval (.tmp 10) = .func (.func 124) #[] #[.pointer (some ⟨B, 0, none⟩)] := by
      show Array.getD _ 10 undef = _
      rw [Array.getD_eq_getD_getElem?]
      simp only [Act.put]
      rw [Array.getElem?_setIfInBounds_self_of_lt (by omega)]; rfl
    have e : execOp (a.put (some 10) (.func (.func 124) #[] #[.pointer (some ⟨B, 0, none⟩)])).eval ⟨some 11, .call { callee := .value (.func 123), args := #[.tmp 9, .tmp 10], argTypes := at' }, t, p, af, none⟩ = callFunc 123 (#[] ++ #[Operand.tmp 9, .tmp 10].map (a.put (some 10) (.func (.func 124) #[] #[.pointer (some ⟨B, 0, none⟩)])).eval ++ #[]) := rfl
    have eg : ∀ args w, (callFunc 123 args).run Tryd.prog w = .ok (.enter 123 args) w := enters_of Tryd.func123 (by kernel_rfl) rfl
    rw [e, eg]
    simp [e9', e10]
  rw [run3, Oper.upon_enter]
  have hl : (Mems c.ms).length = c.ms.length := by simp
  rw [hl]
  refine Calls.mono (index_calls id b o cap B c.ms C.w (by rw [← hl]; omega) hbw hBw hcell ?_) ?_
  · intro j hj i v hv
    rw [show c.ms[j]! = c.ms[j] by simp [hj]] at hv
    have := hcs _ v (Es_mems c.ms body hes j hj i v hv)
    rwa [← Nat.add_assoc] at this
  · rintro ex w' ⟨rfl, hbel⟩
    obtain ⟨hle, hwr⟩ := hm.wr.world (grown_of_below hbel)
    refine hK _ { C with w := w' } ⟨hwr, hm.m, ?_, hm.gr.mono hle, hm.le.trans hle, ?_, ?_, hm.fresh, hm.top, hm.one⟩
    · intro u x hx
      dsimp only at hx ⊢
      by_cases e11 : u = 11
      · subst e11
        simp only [upd_same, Option.some.injEq] at hx
        subst hx
        refine ⟨.int .i64 (idxOf c.ms id), ?_, ?_⟩
        · simp only [Act.put]
          rw [Array.getElem?_setIfInBounds_self_of_lt (by simp; omega)]
        · simp [SV, SV1, V, Value.oneCell']
      · rw [upd_other _ _ e11] at hx
        by_cases e10 : u = 10
        · subst e10; simp at hx
        · rw [upd_other _ _ e10] at hx
          obtain ⟨z, h1, h2⟩ := (hm.fr.mono hle) u x hx
          refine ⟨z, ?_, h2⟩
          simp only [Act.put]
          rw [Array.getElem?_setIfInBounds_ne (fun h => e11 h.symm), Array.getElem?_setIfInBounds_ne (fun h => e10 h.symm)]
          exact h1
    · simp [Act.put, hsz]
    · simp [Act.put, hm.defers]
end
end Go.Proofs.YtjlmpdbagmdbiaaDoor.WL

end
section
/-
  CHAPTER 08: the contracts of Find.
-/
namespace Go.Proofs.YtjlmpdbagmdbiaaDoor.WL
open Go Go.Proofs Go.Shelf Go.RowKit Go.Lib
set_option maxHeartbeats 4000000
attribute [local irreducible] idxOf

section
variable {w0 : World} {Ws I0 : Nat → Prop} {G : Nat → Option AV} {C0 C : Ctx}

def findM (c : Conf) (id : Int) : List (Nat × Loc) := [(2, .var 2 c.av), (3, .var 3 (.v (.int .i64 id))), (4, .var 4 (.node [.v (.int .i64 0), .node [.arr 1 (rep 32 (.v (.int .u8 0))), .v (.int .i64 0)]]))]
def findS (c : Conf) (id : Int) : SA := ⟨[(2, .ptr 2 2 0), (3, .ptr 3 3 0), (4, .ptr 4 4 0), (5, .v (.int .i64 0)), (6, .v (.bool false))], findM c id, 7⟩
def findT (c : Conf) (id : Int) : SA := ⟨[(2, .ptr 2 2 0), (4, .ptr 4 4 0), (7, .v (.int .i64 (idxOf c.ms id)))], findM c id, 12⟩

theorem wpOps_fun {P : Program} {ops : Array Oper} {Q : Exit → Act → World → Prop} (i : Nat) (rest : List Nat) : wpOps P ops Q (i :: rest) = wpOp P ops Q i (wpOps P ops Q rest) := by
  funext a w
  exact wpOps_cons i rest a w
theorem find_first (c : Conf) (id : Int) : awp Tryd.prog G (.region c_find_r0 none [2, 3, 4, 5, 6]) (fun e S => e = .normal ∧ S = findS c id) ⟨argsL 0 [c.av, .v (.int .i64 id)], [], 2⟩ := by
  refine awp_go ?_
  simp [findS, findM]

theorem find_mid {c : Conf} {id : Int} (hms : c.ms ≠ []) {a : Act} {w : World} {Q : Exit → Act → World → Prop} (hr : Rel w0 Ws I0 G C0 21 (findS c id) a w)
    (hK : ∀ a' w', Rel w0 Ws I0 G C0 21 (findT c id) a' w' → Q .normal a' w') : (Code.region 1 opsF false).wp Tryd.prog Q a w := by
  refine wp_region ?_
  have hs5 : opsF.size = 5 := find_opsn
  rw [hs5, show List.range 5 = [0, 1, 2, 3, 4] from rfl]
  rw [wpOps_fun, wpOps_fun, wpOps_fun, wpOps_fun, wpOps_fun]
  obtain ⟨hk, C, rfl, hm⟩ := hr
  have hm0 := Rel.start (n := 5) hk hm [0, 1, 4]
  refine mid_op (rd := []) (us := []) (av := .ptr 2 2 1) opsF_zero find_ops0 (by decide) (by simp) (by simp [findS]) (by simp [findS]) hm0 (.inr ⟨rfl, [.ptr 2 2 0], rfl, rfl, rfl⟩) fun a1 C1 h1 => ?_
  refine mid_op (rd := [2]) (us := []) (av := .sl 34 (Mems c.ms)) opsF_one find_ops1 (by decide) (by simp) (by simp [findS]) (by simp [findS]) h1 (.inr ⟨rfl, [.ptr 2 2 1], rfl, by rfl, rfl⟩) fun a2 C2 h2 => ?_
  refine find_call (c := c) (id := id) hms (g3 := 3) h2 rfl rfl rfl fun a3 C3 h3 => ?_
  refine mid_op (rd := []) (us := []) (av := .v (.int .i64 (idxOf c.ms id))) opsF_four find_ops4 (by decide) (by simp) (by simp [findS]) (by simp [findS]) h3 (.inr ⟨rfl, [.v (.int .i64 (idxOf c.ms id))], rfl, rfl, rfl⟩) fun a4 C4 h4 => ?_
  refine hK _ _ ⟨by simp [findT], C4, rfl, h4.wr, h4.m, ?_, h4.gr, h4.le, h4.size, h4.defers, by simp, fun k hk => h4.top k hk, h4.one⟩
  intro t x hx
  have : t = 2 ∨ t = 4 ∨ t = 7 := by
    simp only [findT, look] at hx
    split at hx
    · omega
    · split at hx
      · omega
      · split at hx
        · omega
        · cases hx
  rcases this with rfl | rfl | rfl <;> exact h4.fr _ x hx
end
variable {G : Nat → Option AV}
theorem find_pre {c : Conf} {id : Int} (hms : c.ms ≠ []) {res : AV} (hg : goodM true [] [] = true ∧ goodA true [] res = true ∧ (([] : List (Nat × Loc)).map (·.1)).Nodup)
    (h : awp Tryd.prog G c_find_rest (postA [.cell 4 true 34, .tmp 5, .tmp 6] res []) (findT c id)) : Meets Tryd.prog G 89 [c.av, .v (.int .i64 id)] [] true res [] := by
  have hf : Tryd.prog.funcs[89]? = some Tryd.f89 := by kernel_rfl
  have hn : Tryd.f89.ntmps = 21 := by kernel_rfl
  refine meets_of_wp (rs := [.cell 4 true 34, .tmp 5, .tmp 6]) hf find_body (by kernel_rfl) (by rw [hn]; simp) hg fun w0 Ws I0 C0 a w hr => ?_
  rw [hn] at hr ⊢
  rw [find_seq]
  refine wp_seq (wp_mono (awp_ok mix find_chk0 (find_first c id) hr) ?_)
  rintro e a' w' ⟨S', ⟨rfl, rfl⟩, hr'⟩
  refine wp_seq (find_mid hms hr' fun a'' w'' hr'' => ?_)
  exact awp_ok mix find_chk1 h hr''
end Go.Proofs.YtjlmpdbagmdbiaaDoor.WL

end
section
/-
  CHAPTER 08: Find's answers.
-/
namespace Go.Proofs.YtjlmpdbagmdbiaaDoor.WL
open Go
set_option maxHeartbeats 4000000
attribute [local irreducible] idxOf
variable {G : Nat → Option AV}

theorem mem_goodA (m : Mem) : goodA true [] m.av = true := by simp [Mem.av, dv]
theorem find_none {c : Conf} {id : Int} (hms : c.ms ≠ []) (h : idxOf c.ms id = -1) : Meets Tryd.prog G 89 [c.av, .v (.int .i64 id)] [] true (.tup [Mem.av ⟨0, Dg.zero, 0⟩, .v (.int .i64 0), .v (.bool false)]) [] := by
  refine find_pre hms (by simp [mem_goodA]) ?_
  refine awp_go ?_
  simp [c_find_rest, findT, findM, h]
  refine post_end (.inr rfl) ?_
  simp [Mem.av, dv]
theorem find_some {c : Conf} {id : Int} {k : Nat} (hk : k < c.ms.length) (h : idxOf c.ms id = (k : Int)) : Meets Tryd.prog G 89 [c.av, .v (.int .i64 id)] [] true (.tup [(c.ms[k]).av, .v (.int .i64 k), .v (.bool true)]) [] := by
  refine find_pre (fun e => by rw [e] at hk; cases hk) (by simp [mem_goodA]) ?_
  refine awp_go ?_
  have h0 : ¬ ((k : Int) < 0) := by omega
  simp [c_find_rest, findT, findM, h, Conf.av, h0, hk]
  refine post_end (.inr rfl) ?_
  simp [Mem.av, dv]
end Go.Proofs.YtjlmpdbagmdbiaaDoor.WL

end
section
/-
  CHAPTER 02: contracts: words.
-/
namespace Go.Proofs.YtjlmpdbagmdbiaaDoor.WL
open Go
set_option maxHeartbeats 4000000

theorem rot_meets {G : Nat → Option AV} (x : UInt32) (r : Nat) (h : 0 < r ∧ r < 32) : Meets Tryd.prog G fn_bits_RotateLeft32 [wv x, .v (.int .i64 (-(r : Int)))] [] true (wv (rotr x r)) [] := by
  refine meets_of_go mix k_bits_RotateLeft32 ⟨by simp, by simp, by simp⟩ ?_
  have h1 : bitsOp .and .u64 (IntKind.u64.wrap (-(r : Int))) 31 = ((32 - r : Nat) : Int) := by
    obtain ⟨k, rfl⟩ : ∃ k : Fin 32, r = k.val := ⟨⟨r, h.2⟩, rfl⟩
    revert h
    revert k
    decide +kernel
  have h2 : (0 : Int) ≤ ((32 - r : Nat) : Int) := by omega
  have h3 : IntKind.u64.wrap (32 - ((32 - r : Nat) : Int)) = (r : Int) := by rw [u64_id (by omega)]; omega
  have h4 : min (32 - r) 32 = 32 - r := by omega
  have h5 : min r 32 = r := by omega
  have h6 := u32_shl x (32 - r) (by omega)
  have h7 := u32_shr x r h.2
  have h8 : (x <<< UInt32.ofNat (32 - r)) ||| (x >>> UInt32.ofNat r) = rotr x r := UInt32.or_comm _ _
  simp [h1, h2, h3, h4, h5, h6, h7, u32_or, h8]
  refine post_end (.inr rfl) ?_
  simp

theorem word_meets {G : Nat → Option AV} (b : Bytes) (h : 4 ≤ b.length) : Meets Tryd.prog G fn_sha_word [.sl 1 (B b)] [] true (wv (word4 (b.getD 0 0) (b.getD 1 0) (b.getD 2 0) (b.getD 3 0))) [] := by
  refine meets_of_go mix k_sha_word ⟨by simp, by simp, by simp⟩ ?_
  match b, h with
  | a :: b :: c :: d :: r, _ =>
    have h1 := u32_shl a.toUInt32 24 (by decide)
    have h2 := u32_shl b.toUInt32 16 (by decide)
    have h3 := u32_shl c.toUInt32 8 (by decide)
    simp only [Int.reducePow] at h1 h2 h3
    simp [u32_byte, h1, h2, h3, u32_or]
    refine post_end (.inr rfl) ?_
    simp [word4]

end Go.Proofs.YtjlmpdbagmdbiaaDoor.WL

end
