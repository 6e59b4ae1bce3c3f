/-
  CHAPTER 12: contracts of the reference: what is great, what can be, what is the same.
-/
import Derived.Test.YtmdjimkndeklmaaDoorS12b
import Derived.Test.YtmdjimkndeklmaaDoorL09b
namespace Go.Proofs.YtmdjimkndeklmaaDoor.WL
open Go
set_option maxHeartbeats 4000000
variable {G : Nat → Option AV}

def Blk.great (b : Blk) (m : Nat) : Bool := decide (40 < b.qs.length) || decide (m < (reqsB b.qs).length)
theorem rep3 (z a b c : AV) : (((rep 3 z).set 0 a).set 1 b).set 2 c = [a, b, c] := (rfl)
theorem bgreat_meets (b : Blk) (m : Nat) (hm : m ≤ 1000000) (hf : ∀ q ∈ b.qs, q.key.length ≤ reachBytes ∧ q.val.length ≤ reachBytes ∧ q.old.length ≤ reachBytes) :
    Meets Tryd.prog G fn_r12_Great [b.avS, .v (.int .i64 (m : Nat))] [] true (.v (.bool (b.great m))) [] := by
  refine meets_of_go mix k_r12_Great ⟨by simp, by simp, by simp⟩ ?_
  unfold Blk.great
  generalize hqs : b.qs = qs at *
  by_cases c1 : (40 : Int) < (qs.length : Nat)
  · have d1 : 40 < qs.length := by omega
    simp [Blk.avS, hqs, c1]
    refine post_end (.inr rfl) ?_
    simp [d1]
  have d1 : ¬ 40 < qs.length := by omega
  simp [Blk.avS, hqs, c1]
  refine go_up qs.length (fun j (n : Nat) => n = (reqsB (qs.take j)).length ∧ n ≤ m) (fun j n c => ⟨[(1, .v (.int .i64 (m : Nat))), (5, .v (.int .i64 (n : Nat))), (15, .sl 42 (Reqs qs)), (16, .v (.int .i64 (qs.length : Nat))), (17, .v (.int .i64 (j : Nat)))], [], c + 1⟩) 0 _ (Weak.re (by simp)) (by simp [reqsB]) ?_ ?_
  · rintro j n c hj ⟨hn, hn2⟩
    have hw : IntKind.i64.wrap ((j : Int) + 1) = ((j + 1 : Nat) : Int) := w64_succ (by omega)
    have hle := reqsB_take_le qs (j + 1)
    rw [reqsB_take qs j hj, List.length_append, Req.bytes_len] at hle
    have hs : (reqsB (qs.take (j + 1))).length = n + (100 + (qs[j].key.length + qs[j].val.length + qs[j].old.length)) := by rw [reqsB_take qs j hj, List.length_append, Req.bytes_len, hn]
    rw [← hn] at hle
    obtain ⟨f1, f2, f3⟩ := hf qs[j] (List.getElem_mem hj)
    unfold reachBytes at f1 f2 f3
    have w1 : IntKind.i64.wrap ((n : Int) + 100) = ((n + 100 : Nat) : Int) := by rw [w64_id (by omega)]; omega
    simp [hj, w1, rep3, Req.av, Chg.av]
    generalize qs[j] = q at *
    obtain ⟨ls, hls⟩ : ∃ ls, ls = [q.key, q.val, q.old] := ⟨_, rfl⟩
    have hL : [AV.v (.string (mkS q.key)), .v (.string (mkS q.val)), .v (.string (mkS q.old))] = Strs ls := by rw [hls]; rfl
    rw [hL]
    have hll : ls.length = 3 := by rw [hls]; rfl
    have hsum : lenSum ls = q.key.length + q.val.length + q.old.length := by rw [hls]; simp [lenSum]; omega
    have hfl : ∀ (t : Nat) (h : t < ls.length), ls[t].length ≤ 140737488355328 := by
      intro t h
      have := List.getElem_mem h
      generalize ls[t] = x at *
      rw [hls] at this
      simp at this
      rcases this with rfl | rfl | rfl <;> omega
    refine go_up 3 (fun t (p : Nat) => p = n + 100 + lenSum (ls.take t) ∧ (t = 0 ∨ p ≤ m)) (fun t p c => ⟨[(1, .v (.int .i64 (m : Nat))), (5, .v (.int .i64 (p : Nat))), (15, .sl 42 (Reqs qs)), (16, .v (.int .i64 (qs.length : Nat))), (17, .v (.int .i64 (j : Nat))), (32, .arr 1 (Strs ls)), (33, .v (.int .i64 (t : Nat)))], [], c + 1⟩) (n + 100) _ (Weak.re (by simp)) (by simp [lenSum]) ?_ ?_
    · rintro t p c' ht ⟨hp, hp2⟩
      have hw' : IntKind.i64.wrap ((t : Int) + 1) = ((t + 1 : Nat) : Int) := w64_succ (by omega)
      have ht3 : (t : Int) < 3 := by omega
      have htl : t < ls.length := by omega
      have hs1 := lenSum_snoc ls t htl
      have hl1 := lenSum_le ls (t + 1)
      have hr := hfl t htl
      obtain ⟨s, hs2⟩ : ∃ s, s = p + ls[t].length := ⟨_, rfl⟩
      have w2 : IntKind.i64.wrap ((p : Int) + (ls[t].length : Nat)) = (s : Int) := by rw [w64_id (by omega)]; omega
      by_cases c2 : (m : Int) < (s : Int)
      · have d2 : m < (reqsB qs).length := by omega
        simp [ht, ht3, hll, htl, w2, c2]
        refine post_end (.inr rfl) ?_
        simp [d2]
      · simp [ht, ht3, hll, htl, w2, c2, hw']
        exact ⟨s, _, Weak.re (by simp), by omega, by omega⟩
    · rintro p c' ⟨hp, hp2⟩
      rw [List.take_of_length_le (by omega)] at hp
      simp [hw]
      exact ⟨p, _, Weak.re (by simp), by omega, by omega⟩
  · rintro n c ⟨hn, hn2⟩
    rw [List.take_length] at hn
    have c2 : ¬ (m : Int) < (n : Int) := by omega
    have d2 : ¬ m < (reqsB qs).length := by omega
    simp [c2]
    refine post_end (.inr rfl) ?_
    simp [d1, d2]
end Go.Proofs.YtmdjimkndeklmaaDoor.WL
