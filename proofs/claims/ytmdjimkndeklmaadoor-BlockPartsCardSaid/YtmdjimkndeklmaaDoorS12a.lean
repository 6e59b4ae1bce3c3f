/-
  CHAPTER 12: contracts of blocks.
-/
import Derived.Test.YtmdjimkndeklmaaDoorM12
import Derived.Test.YtmdjimkndeklmaaDoorS09b
namespace Go.Proofs.YtmdjimkndeklmaaDoor.WL
open Go
set_option maxHeartbeats 4000000
variable {G : Nat → Option AV}

theorem I64_2 (a b : Int) : [AV.v (.int .i64 a), .v (.int .i64 b)] = I64 [a, b] := (rfl)
theorem Dgs_3 (a b c : Dg) : [AV.arr 1 (B a.bs), .arr 1 (B b.bs), .arr 1 (B c.bs)] = Dgs [a, b, c] := (rfl)
theorem bgood_meets (b : Blk) : Meets Tryd.prog G fn_block_Good [b.avS] [] true (.v (.bool b.good)) [] := by
  refine meets_of_go mix k_block_Good ⟨by simp, by simp, by simp⟩ ?_
  unfold Blk.good
  by_cases c1 : b.epoch < 0
  · have d1 : ¬ 0 ≤ b.epoch := by omega
    simp [Blk.avS, c1]
    refine post_end (.inr rfl) ?_
    simp [d1]
  by_cases c2 : 1073741824 < b.epoch
  · have d1 : ¬ b.epoch ≤ 1073741824 := by omega
    simp [Blk.avS, c1, c2]
    refine post_end (.inr rfl) ?_
    simp [d1]
  by_cases c3 : b.height < 1
  · have d1 : ¬ 1 ≤ b.height := by omega
    simp [Blk.avS, c1, c2, c3]
    refine post_end (.inr rfl) ?_
    simp [d1]
  by_cases c4 : 1024 < b.height
  · have d1 : ¬ b.height ≤ 1024 := by omega
    simp [Blk.avS, c1, c2, c3, c4]
    refine post_end (.inr rfl) ?_
    simp [d1]
  by_cases c5 : (8 : Int) < (b.qs.length : Nat)
  · have d1 : ¬ b.qs.length ≤ 8 := by omega
    simp [Blk.avS, c1, c2, c3, c4, c5]
    refine post_end (.inr rfl) ?_
    simp [d1]
  have d : (decide (0 ≤ b.epoch) && decide (b.epoch ≤ 1073741824) && decide (1 ≤ b.height) && decide (b.height ≤ 1024) && decide (b.qs.length ≤ 8)) = true := by
    simp only [Bool.and_eq_true, decide_eq_true_eq]; omega
  rw [d, Bool.true_and]
  generalize hqs : b.qs = qs at *
  simp [Blk.avS, c1, c2, c3, c4, c5, hqs]
  refine go_up qs.length (fun j (_ : Unit) => ∀ i (h : i < qs.length), i < j → qs[i].good = true) (fun j (_ : Unit) c => ⟨[(30, .sl 42 (Reqs qs)), (31, .v (.int .i64 (qs.length : Nat))), (32, .v (.int .i64 (j : Nat)))], [], c + 1⟩) () _ (Weak.re (by simp)) (by intro i _ h; omega) ?_ ?_
  · intro j _ c hj hx
    have hw : IntKind.i64.wrap ((j : Int) + 1) = ((j + 1 : Nat) : Int) := w64_succ (by omega)
    have m1 := qgood_meets (G := G) qs[j]
    simp [hj, Req.av, Chg.av]
    refine call_intro m1 ?_ ?_
    · simp [Req.av, Chg.av]
    cases hg : qs[j].good
    · have hf : qs.all Req.good = false := by
        rw [List.all_eq_false]
        exact ⟨qs[j], List.getElem_mem hj, by simp [hg]⟩
      simp
      refine post_end (.inr rfl) ?_
      simp [hf]
    · simp [hw]
      refine ⟨(), _, Weak.re (by simp), ?_⟩
      intro i hi hij
      rcases (show i < j ∨ i = j by omega) with h | rfl
      · exact hx i hi h
      · exact hg
  · intro _ c hx
    have hf : qs.all Req.good = true := by
      rw [List.all_eq_true]
      intro q hq
      obtain ⟨i, hi, rfl⟩ := List.getElem_of_mem hq
      exact hx i hi hi
    simp
    refine post_end (.inr rfl) ?_
    simp [hf]

theorem bwrite_meets (bs : Bytes) (b : Blk) (h : bs.length + b.bytes.length ≤ 60000000) (hn : b.qs.length ≤ 1000000) : Meets Tryd.prog G fn_block_Write [.ptr 1000 0 0, b.avS] (wrM 0 bs) true (.tup []) (wrM 1 (bs ++ b.bytes)) := by
  refine meets_of_go mix k_block_Write ⟨by simp [wrM], by simp, by simp [wrM]⟩ ?_
  have hlen := b.bytes_len
  have hhl := b.head_len
  have hb : bs ++ b.bytes = bs ++ nums [b.epoch, b.height] ++ flatD [b.prev, b.state, b.next] ++ nums [(b.qs.length : Int)] ++ reqsB b.qs := by simp [Blk.bytes, Blk.head]
  have n1 := nums_length [b.epoch, b.height]
  have n2 := nums_length [(b.qs.length : Int)]
  have n3 : (flatD [b.prev, b.state, b.next]).length = 96 := by simp [flatD]
  simp only [List.length_cons, List.length_nil] at n1 n2
  have m1 := wnum_meets (G := G) bs [b.epoch, b.height] (by simp; omega)
  have m2 := wdigest_meets (G := G) (bs ++ nums [b.epoch, b.height]) [b.prev, b.state, b.next] (by rw [List.length_append]; simp; omega)
  have m3 := wnum_meets (G := G) (bs ++ nums [b.epoch, b.height] ++ flatD [b.prev, b.state, b.next]) [(b.qs.length : Int)] (by simp only [List.length_append]; simp; omega)
  have hl3 : (bs ++ nums [b.epoch, b.height] ++ flatD [b.prev, b.state, b.next] ++ nums [(b.qs.length : Int)]).length = bs.length + 120 := by simp only [List.length_append]; omega
  rw [hb]
  generalize bs ++ nums [b.epoch, b.height] ++ flatD [b.prev, b.state, b.next] ++ nums [(b.qs.length : Int)] = y3 at *
  generalize bs ++ nums [b.epoch, b.height] ++ flatD [b.prev, b.state, b.next] = y2 at *
  generalize bs ++ nums [b.epoch, b.height] = y1 at *
  generalize hqs : b.qs = qs at *
  have hI1 : [AV.v (.int .i64 (qs.length : Nat))] = I64 [(qs.length : Int)] := rfl
  simp [Blk.avS, wrM, hqs]
  refine call_intro m1 ?_ ?_
  · simp [wrM, I64_2]
  simp [wrM, I64_2]
  refine call_intro m2 ?_ ?_
  · simp [wrM, Dgs_3, dv]
  simp [wrM, Dgs_3, dv]
  refine call_intro m3 ?_ ?_
  · simp [wrM, hI1]
  simp [wrM, hI1]
  obtain ⟨F, hF⟩ : ∃ F : Nat → Bytes, ∀ i, F i = y3 ++ reqsB (qs.take i) := ⟨_, fun _ => rfl⟩
  have hF0 : y3 = F 0 := by rw [hF]; simp [reqsB]
  have hFN : y3 ++ reqsB qs = F qs.length := by rw [hF, List.take_length]
  have hFl : (F qs.length).length = (F 0).length + (reqsB qs).length := by rw [← hFN, ← hF0, List.length_append]
  rw [hFN]
  simp only [hF0]
  refine go_up qs.length (fun j (_ : Unit) => True) (fun j _ c => ⟨[(0, .ptr 1000 0 0), (29, .sl 42 (Reqs qs)), (30, .v (.int .i64 (qs.length : Nat))), (31, .v (.int .i64 (j : Nat)))], [(1000, .var 0 (.node [.row 2000 1 c 0 (F j).length])), (2000, .rows c 1 (B (F j)))], c + 1⟩) () _ (Weak.re0 1000 (by simp)) trivial ?_ ?_
  · intro j _ c hj _
    have hw : IntKind.i64.wrap ((j : Int) + 1) = ((j + 1 : Nat) : Int) := w64_succ (by omega)
    have hle := reqsB_take_le qs (j + 1)
    rw [reqsB_take qs j hj, List.length_append] at hle
    have hFj : (F j).length = y3.length + (reqsB (qs.take j)).length := by rw [hF, List.length_append]
    have hFs : F j ++ qs[j].bytes = F (j + 1) := by rw [hF, hF, reqsB_take qs j hj, List.append_assoc]
    have m4 := qwrite_meets (G := G) (F j) qs[j] (by omega)
    rw [hFs] at m4
    simp [hj, Req.av, Chg.av]
    refine call_intro m4 ?_ ?_
    · simp [wrM, Req.av, Chg.av]
    simp [wrM, hw, Req.av, Chg.av]
    exact ⟨(), _, Weak.re0 1000 (by simp), trivial⟩
  · intro _ c _
    simp
    refine post_end (.inl rfl) ?_
    simp [hFl]
end Go.Proofs.YtmdjimkndeklmaaDoor.WL
