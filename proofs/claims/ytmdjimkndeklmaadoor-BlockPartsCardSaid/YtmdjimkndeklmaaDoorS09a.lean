/-
  CHAPTER 09: contracts of requests.
-/
import Derived.Test.YtmdjimkndeklmaaDoorM09
import Derived.Test.YtmdjimkndeklmaaDoorS01d
import Derived.Test.YtmdjimkndeklmaaDoorS01e
import Derived.Test.YtmdjimkndeklmaaDoorS01f
namespace Go.Proofs.YtmdjimkndeklmaaDoor.WL
open Go
set_option maxHeartbeats 4000000
variable {G : Nat → Option AV}

theorem I64_3 (a b c : Int) : [AV.v (.int .i64 a), .v (.int .i64 b), .v (.int .i64 c)] = I64 [a, b, c] := (rfl)
theorem I64_4 (a b c d : Int) : [AV.v (.int .i64 a), .v (.int .i64 b), .v (.int .i64 c), .v (.int .i64 d)] = I64 [a, b, c, d] := (rfl)
theorem Strs_3 (a b c : Bytes) : [AV.v (.string (mkS a)), .v (.string (mkS b)), .v (.string (mkS c))] = Strs [a, b, c] := (rfl)
theorem Dgs_1 (a : Dg) : [AV.arr 1 (B a.bs)] = Dgs [a] := (rfl)
theorem flatD_1 (a : Dg) : flatD [a] = a.bs := by simp [flatD]

theorem qshort_meets (ss : List Bytes) (hn : ss.length ≤ 1000000) : Meets Tryd.prog G fn_request_short [.sl 1 (Strs ss)] [] true (.v (.bool (ss.all fun s => decide (s.length ≤ 1024)))) [] := by
  refine meets_of_go mix k_request_short ⟨by simp, by simp, by simp⟩ ?_
  simp
  refine go_up ss.length (fun j (_ : Unit) => ∀ i (h : i < ss.length), i < j → ss[i].length ≤ 1024) (fun j (_ : Unit) c => ⟨[(5, .sl 1 (Strs ss)), (6, .v (.int .i64 (ss.length : Nat))), (7, .v (.int .i64 (j : Nat)))], [], c⟩) () _ (Weak.refl _) (by intro i _ h; omega) ?_ ?_
  · intro j _ c hj hx
    have hw : IntKind.i64.wrap ((j : Int) + 1) = ((j + 1 : Nat) : Int) := w64_succ (by omega)
    by_cases c1 : (1024 : Int) < (ss[j].length : Nat)
    · have hf : (ss.all fun s => decide (s.length ≤ 1024)) = false := by
        rw [List.all_eq_false]
        exact ⟨ss[j], List.getElem_mem hj, by simp; omega⟩
      simp [hj, c1]
      refine post_end (.inr rfl) ?_
      simp only [hf]
      simp
    · simp [hj, c1, hw]
      refine ⟨(), _, Weak.refl _, ?_⟩
      intro i hi hij
      rcases (show i < j ∨ i = j by omega) with h | rfl
      · exact hx i hi h
      · omega
  · intro _ c hx
    have hf : (ss.all fun s => decide (s.length ≤ 1024)) = true := by
      rw [List.all_eq_true]
      intro s hs
      obtain ⟨i, hi, rfl⟩ := List.getElem_of_mem hs
      exact decide_eq_true (hx i hi hi)
    simp
    refine post_end (.inr rfl) ?_
    simp only [hf]
    simp

theorem qgood_meets (q : Req) : Meets Tryd.prog G fn_request_Good [q.av] [] true (.v (.bool q.good)) [] := by
  refine meets_of_go mix k_request_Good ⟨by simp, by simp, by simp⟩ ?_
  have hs := qshort_meets (G := G) [q.key, q.val, q.old] (by simp)
  unfold Req.good
  by_cases c1 : 1 ≤ q.client
  · by_cases c2 : q.client ≤ 64
    · by_cases c3 : 1 ≤ q.num
      · by_cases c4 : q.num ≤ 1099511627776
        · by_cases c5 : 1 ≤ q.kind
          · by_cases c6 : q.kind ≤ 7
            · simp [Req.av, Chg.av, c1, c2, c3, c4, c5, c6]
              refine call_intro hs ?_ ?_
              · simp [Strs_3]
              simp [Strs_3]
              refine post_end (.inr rfl) ?_
              simp [Bool.and_assoc]
            · simp [Req.av, Chg.av, c1, c2, c3, c4, c5, c6]
              refine post_end (.inr rfl) ?_
              simp
          · simp [Req.av, Chg.av, c1, c2, c3, c4, c5]
            refine post_end (.inr rfl) ?_
            simp
        · simp [Req.av, Chg.av, c1, c2, c3, c4]
          refine post_end (.inr rfl) ?_
          simp
      · simp [Req.av, Chg.av, c1, c2, c3]
        refine post_end (.inr rfl) ?_
        simp
    · simp [Req.av, Chg.av, c1, c2]
      refine post_end (.inr rfl) ?_
      simp
  · simp [Req.av, Chg.av, c1]
    refine post_end (.inr rfl) ?_
    simp

theorem qwrite_meets (bs : Bytes) (q : Req) (h : bs.length + q.bytes.length ≤ 60000000) : Meets Tryd.prog G fn_request_Write [.ptr 1000 0 0, q.av] (wrM 0 bs) true (.tup []) (wrM 1 (bs ++ q.bytes)) := by
  refine meets_of_go mix k_request_Write ⟨by simp [wrM], by simp, by simp [wrM]⟩ ?_
  have hl := Req.bytes_len q
  have n1 := nums_length [q.client, q.num, q.kind]
  have n2 : (txts [q.key, q.val, q.old]).length = 12 + (q.key.length + q.val.length + q.old.length) := by simp [txts]; omega
  have n3 := nums_length [q.ch.kind, q.ch.id, q.ch.new, q.ch.height]
  have hb : q.bytes = nums [q.client, q.num, q.kind] ++ (txts [q.key, q.val, q.old] ++ (nums [q.ch.kind, q.ch.id, q.ch.new, q.ch.height] ++ q.ch.root.bs)) := rfl
  rw [hb]
  simp only [List.length_cons, List.length_nil] at n1 n3
  have m1 := wnum_meets (G := G) bs [q.client, q.num, q.kind] (by simp; omega)
  generalize nums [q.client, q.num, q.kind] = x1 at *
  have m2 := wtext_meets (G := G) (bs ++ x1) [q.key, q.val, q.old] (by rw [List.length_append]; omega) (by simp)
  generalize txts [q.key, q.val, q.old] = x2 at *
  have m3 := wnum_meets (G := G) (bs ++ x1 ++ x2) [q.ch.kind, q.ch.id, q.ch.new, q.ch.height] (by simp only [List.length_append, List.length_cons, List.length_nil]; omega)
  generalize nums [q.ch.kind, q.ch.id, q.ch.new, q.ch.height] = x3 at *
  have m4 := wdigest_meets (G := G) (bs ++ x1 ++ x2 ++ x3) [q.ch.root] (by simp only [List.length_append, List.length_cons, List.length_nil]; omega)
  rw [flatD_1] at m4
  have e : bs ++ (x1 ++ (x2 ++ (x3 ++ q.ch.root.bs))) = bs ++ x1 ++ x2 ++ x3 ++ q.ch.root.bs := by simp
  rw [e]
  generalize bs ++ x1 ++ x2 ++ x3 ++ q.ch.root.bs = y4 at *
  generalize bs ++ x1 ++ x2 ++ x3 = y3 at *
  generalize bs ++ x1 ++ x2 = y2 at *
  generalize bs ++ x1 = y1 at *
  simp [Req.av, Chg.av, wrM]
  refine call_intro m1 ?_ ?_
  · simp [wrM, I64_3]
  simp [wrM, I64_3]
  refine call_intro m2 ?_ ?_
  · simp [wrM, Strs_3]
  simp [wrM, Strs_3]
  refine call_intro m3 ?_ ?_
  · simp [wrM, I64_4]
  simp [wrM, I64_4]
  refine call_intro m4 ?_ ?_
  · simp [wrM, Dgs_1]
  simp [wrM, Dgs_1]
  refine post_end (.inl rfl) ?_
  simp

end Go.Proofs.YtmdjimkndeklmaaDoor.WL
