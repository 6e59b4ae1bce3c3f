
import Derived.Test.YtjlmpdbagmdbiaaDoorWm7
section
namespace Go.Proofs.YtjlmpdbagmdbiaaDoor.WL
open Go
set_option maxHeartbeats 4000000
variable {G : Nat → Option AV}
theorem I64_3 (a b c : Int) : [AV.v (.int .i64 a), .v (.int .i64 b), .v (.int .i64 c)] = I64 [a, b, c] := (rfl)
theorem I64_4 (a b c d : Int) : [AV.v (.int .i64 a), .v (.int .i64 b), .v (.int .i64 c), .v (.int .i64 d)] = I64 [a, b, c, d] := (rfl)
theorem JJ2 (a b c : Bytes) : [AV.v (.string (mkS a)), .v (.string (mkS b)), .v (.string (mkS c))] = Strs [a, b, c] := (rfl)
theorem Dgs_1 (a : Dg) : [AV.arr 1 (B a.bs)] = Dgs [a] := (rfl)
theorem JR5 (a : Dg) : flatD [a] = a.bs := by simp [flatD]
theorem JHg (ss : List Bytes) (hn : ss.length ≤ 1000000) : Meets Tryd.prog G Jen [.sl 1 (Strs ss)] [] true (.v (.bool (ss.all fun s => decide (s.length ≤ 1024)))) [] := by
  refine Jc mix JDX ⟨by simp, by simp, by simp⟩ ?_
  simp
  refine go_up ss.length (fun j (_ : Unit) => ∀ i (h : i < ss.length), i < j → ss[i].length ≤ 1024) (fun j (_ : Unit) c => ⟨[(5, .sl 1 (Strs ss)), (6, .v (.int .i64 (ss.length : Nat))), (7, .v (.int .i64 (j : Nat)))], [], c⟩) () _ (Weak.refl _) (by intro i _ h; omega) ?_ ?_
  · intro j _ c hj hx
    have hw : IntKind.i64.wrap ((j : Int) + 1) = ((j + 1 : Nat) : Int) := Je (by omega)
    by_cases c1 : (1024 : Int) < (ss[j].length : Nat)
    · have hf : (ss.all fun s => decide (s.length ≤ 1024)) = false := by
        rw [List.all_eq_false]
        exact ⟨ss[j], List.getElem_mem hj, by simp; omega⟩
      simp [hj, c1]
      refine Jb (.inr rfl) ?_
      simp only [hf]
      simp
    · simp [hj, c1, hw]
      refine ⟨(), _, Weak.refl _, ?_⟩
      intro i hi hij
      rcases (show i < j ∨ i = j by omega) with h | rfl
      · exact hx i hi h
      · omega
  · intro _ c hx
    have hf : (ss.all fun s => decide (s.length ≤ 1024)) = true := by
      rw [List.all_eq_true]
      intro s hs
      obtain ⟨i, hi, rfl⟩ := List.getElem_of_mem hs
      exact decide_eq_true (hx i hi hi)
    simp
    refine Jb (.inr rfl) ?_
    simp only [hf]
    simp
theorem JIh (q : Req) : Meets Tryd.prog G Jg9 [q.av] [] true (.v (.bool q.good)) [] := by
  refine Jc mix JET ⟨by simp, by simp, by simp⟩ ?_
  have hs := JHg (G := G) [q.key, q.val, q.old] (by simp)
  unfold Req.good
  by_cases c1 : 1 ≤ q.client
  · by_cases c2 : q.client ≤ 64
    · by_cases c3 : 1 ≤ q.num
      · by_cases c4 : q.num ≤ 1099511627776
        · by_cases c5 : 1 ≤ q.kind
          · by_cases c6 : q.kind ≤ 7
            · simp [Req.av, Chg.av, c1, c2, c3, c4, c5, c6]
              refine Ja hs ?_ ?_
              · simp [JJ2]
              simp [JJ2]
              refine Jb (.inr rfl) ?_
              simp [Bool.and_assoc]
            · simp [Req.av, Chg.av, c1, c2, c3, c4, c5, c6]
              refine Jb (.inr rfl) ?_
              simp
          · simp [Req.av, Chg.av, c1, c2, c3, c4, c5]
            refine Jb (.inr rfl) ?_
            simp
        · simp [Req.av, Chg.av, c1, c2, c3, c4]
          refine Jb (.inr rfl) ?_
          simp
      · simp [Req.av, Chg.av, c1, c2, c3]
        refine Jb (.inr rfl) ?_
        simp
    · simp [Req.av, Chg.av, c1, c2]
      refine Jb (.inr rfl) ?_
      simp
  · simp [Req.av, Chg.av, c1]
    refine Jb (.inr rfl) ?_
    simp
theorem JHe (bs : Bytes) (q : Req) (h : bs.length + q.bytes.length ≤ 60000000) : Meets Tryd.prog G Jep [.ptr 1000 0 0, q.av] (wrM 0 bs) true (.tup []) (wrM 1 (bs ++ q.bytes)) := by
  refine Jc mix JD3 ⟨by simp [wrM], by simp, by simp [wrM]⟩ ?_
  have hl := Req.bytes_len q
  have n1 := Jg [q.client, q.num, q.kind]
  have n2 : (txts [q.key, q.val, q.old]).length = 12 + (q.key.length + q.val.length + q.old.length) := by simp [txts]; omega
  have n3 := Jg [q.ch.kind, q.ch.id, q.ch.new, q.ch.height]
  have hb : q.bytes = nums [q.client, q.num, q.kind] ++ (txts [q.key, q.val, q.old] ++ (nums [q.ch.kind, q.ch.id, q.ch.new, q.ch.height] ++ q.ch.root.bs)) := rfl
  rw [hb]
  simp only [List.length_cons, List.length_nil] at n1 n3
  have m1 := J0 (G := G) bs [q.client, q.num, q.kind] (by simp; omega)
  generalize nums [q.client, q.num, q.kind] = x1 at *
  have m2 := JJd (G := G) (bs ++ x1) [q.key, q.val, q.old] (by rw [List.length_append]; omega) (by simp)
  generalize txts [q.key, q.val, q.old] = x2 at *
  have m3 := J0 (G := G) (bs ++ x1 ++ x2) [q.ch.kind, q.ch.id, q.ch.new, q.ch.height] (by simp only [List.length_append, List.length_cons, List.length_nil]; omega)
  generalize nums [q.ch.kind, q.ch.id, q.ch.new, q.ch.height] = x3 at *
  have m4 := JX (G := G) (bs ++ x1 ++ x2 ++ x3) [q.ch.root] (by simp only [List.length_append, List.length_cons, List.length_nil]; omega)
  rw [JR5] at m4
  have e : bs ++ (x1 ++ (x2 ++ (x3 ++ q.ch.root.bs))) = bs ++ x1 ++ x2 ++ x3 ++ q.ch.root.bs := by simp
  rw [e]
  generalize bs ++ x1 ++ x2 ++ x3 ++ q.ch.root.bs = y4 at *
  generalize bs ++ x1 ++ x2 ++ x3 = y3 at *
  generalize bs ++ x1 ++ x2 = y2 at *
  generalize bs ++ x1 = y1 at *
  simp [Req.av, Chg.av, wrM]
  refine Ja m1 ?_ ?_
  · simp [wrM, I64_3]
  simp [wrM, I64_3]
  refine Ja m2 ?_ ?_
  · simp [wrM, JJ2]
  simp [wrM, JJ2]
  refine Ja m3 ?_ ?_
  · simp [wrM, I64_4]
  simp [wrM, I64_4]
  refine Ja m4 ?_ ?_
  · simp [wrM, Dgs_1]
  simp [wrM, Dgs_1]
  refine Jb (.inl rfl) ?_
  simp
theorem JJI (r : Rd) : Meets Tryd.prog G JgQ [.ptr 1000 0 0] (rdM 0 r) true r.req.av (rdM 1 r.req') := by
  refine Jc mix JEF ⟨by simp [rdM], by simp [Req.av, Chg.av], by simp [rdM]⟩ ?_
  unfold Rd.req Rd.req0 Rd.req' Rd.q10 Rd.q9 Rd.q8 Rd.q7 Rd.q6 Rd.q5 Rd.q4 Rd.q3 Rd.q2 Rd.q1
  have m1 := JT (G := G) r 1 64
  generalize r.inn' 1 64 = r1 at *
  have m2 := JT (G := G) r1 1 1099511627776
  generalize r1.inn' 1 1099511627776 = r2 at *
  have m3 := JT (G := G) r2 1 7
  generalize r2.inn' 1 7 = r3 at *
  have m4 := JBr (G := G) r3 1024
  generalize r3.text' 1024 = r4 at *
  have m5 := JBr (G := G) r4 1024
  generalize r4.text' 1024 = r5 at *
  have m6 := JBr (G := G) r5 1024
  generalize r5.text' 1024 = r6 at *
  have m7 := Jjk (G := G) r6
  generalize r6.num' = r7 at *
  have m8 := Jjk (G := G) r7
  generalize r7.num' = r8 at *
  have m9 := Jjk (G := G) r8
  generalize r8.num' = r9 at *
  have m10 := Jjk (G := G) r9
  generalize r9.num' = r10 at *
  have m11 := JV (G := G) r10
  generalize r10.dg' = r11 at *
  have m12 := J8 (G := G) r11
  simp [rdM]
  refine Ja m1 ?_ ?_
  · simp [rdM]
  simp [rdM]
  refine Ja m2 ?_ ?_
  · simp [rdM]
  simp [rdM]
  refine Ja m3 ?_ ?_
  · simp [rdM]
  simp [rdM]
  refine Ja m4 ?_ ?_
  · simp [rdM]
  simp [rdM]
  refine Ja m5 ?_ ?_
  · simp [rdM]
  simp [rdM]
  refine Ja m6 ?_ ?_
  · simp [rdM]
  simp [rdM]
  refine Ja m7 ?_ ?_
  · simp [rdM]
  simp [rdM]
  refine Ja m8 ?_ ?_
  · simp [rdM]
  simp [rdM]
  refine Ja m9 ?_ ?_
  · simp [rdM]
  simp [rdM]
  refine Ja m10 ?_ ?_
  · simp [rdM]
  simp [rdM]
  refine Ja m11 ?_ ?_
  · simp [rdM]
  simp [rdM]
  refine Ja m12 ?_ ?_
  · simp [rdM]
  cases hb : r11.bad
  · simp [rdM, hb]
    refine Jb (.inr rfl) ?_
    simp [Req.av, Chg.av]
  · simp [rdM, hb]
    refine Jb (.inr rfl) ?_
    simp [Req.av, Chg.av, Req.zero, Chg.zero]
end Go.Proofs.YtjlmpdbagmdbiaaDoor.WL
end
section
namespace Go.Proofs.YtjlmpdbagmdbiaaDoor.WL
open Go
set_option maxHeartbeats 4000000
variable {G : Nat → Option AV}
theorem JCC (ns : List Int) (hn : ns.length ≤ 1000000) : Meets Tryd.prog G JjX [.sl 1 (I64 ns)] [] true (.v (.string (mkS (nums ns)))) [] := by
  refine Jc mix JLg ⟨by simp, by simp, by simp⟩ ?_
  simp
  refine go_up ns.length (fun j (x : Bytes) => x = nums (ns.take j)) (fun j x c => ⟨[(3, .v (.string (mkS x))), (6, .sl 1 (I64 ns)), (7, .v (.int .i64 (ns.length : Nat))), (8, .v (.int .i64 (j : Nat)))], [], c⟩) [] _ (Weak.refl _) (by simp [nums]) ?_ ?_
  · intro j x c hj hx
    have hw : IntKind.i64.wrap ((j : Int) + 1) = ((j + 1 : Nat) : Int) := Je (by omega)
    have hs := JGN ns j hj
    rw [← hx] at hs
    have hxl : x.length ≤ 8000000 := by rw [hx, Jg, List.length_take]; omega
    have f1 : fitsS (x.length + 8) := fitS (by omega)
    have m1 := Ju (G := G) ns[j]
    have l1 := Jcs ns[j]
    generalize be8 ns[j] = y at *
    simp [hj]
    refine Ja m1 ?_ ?_
    · simp
    simp [f1, l1, hw]
    exact ⟨x ++ y, _, Weak.refl _, hs.symm⟩
  · intro x c hx
    rw [List.take_length] at hx
    subst hx
    simp
    refine Jb (.inr rfl) ?_
    simp
theorem JG7 (r : Rd) : Meets Tryd.prog G Jvn [.ptr 1000 0 0] (rfM r) true r.req.av (rfM r.req') := by
  refine Jc mix JLe ⟨by simp [rfM], by simp [Req.av, Chg.av], by simp [rfM]⟩ ?_
  unfold Rd.req Rd.req0 Rd.req' Rd.q10 Rd.q9 Rd.q8 Rd.q7 Rd.q6 Rd.q5 Rd.q4 Rd.q3 Rd.q2 Rd.q1
  have m1 := JI (G := G) r 1 64
  generalize r.inn' 1 64 = r1 at *
  have m2 := JI (G := G) r1 1 1099511627776
  generalize r1.inn' 1 1099511627776 = r2 at *
  have m3 := JI (G := G) r2 1 7
  generalize r2.inn' 1 7 = r3 at *
  have m4 := Jvv (G := G) r3 1024
  generalize r3.text' 1024 = r4 at *
  have m5 := Jvv (G := G) r4 1024
  generalize r4.text' 1024 = r5 at *
  have m6 := Jvv (G := G) r5 1024
  generalize r5.text' 1024 = r6 at *
  have m7 := Jgy (G := G) r6
  generalize r6.num' = r7 at *
  have m8 := Jgy (G := G) r7
  generalize r7.num' = r8 at *
  have m9 := Jgy (G := G) r8
  generalize r8.num' = r9 at *
  have m10 := Jgy (G := G) r9
  generalize r9.num' = r10 at *
  have m11 := J7 (G := G) r10
  generalize r10.dg' = r11 at *
  have m12 := JR (G := G) r11
  simp [rfM]
  refine Ja m1 ?_ ?_
  · simp [rfM]
  simp [rfM]
  refine Ja m2 ?_ ?_
  · simp [rfM]
  simp [rfM]
  refine Ja m3 ?_ ?_
  · simp [rfM]
  simp [rfM]
  refine Ja m4 ?_ ?_
  · simp [rfM]
  simp [rfM]
  refine Ja m5 ?_ ?_
  · simp [rfM]
  simp [rfM]
  refine Ja m6 ?_ ?_
  · simp [rfM]
  simp [rfM]
  refine Ja m7 ?_ ?_
  · simp [rfM]
  simp [rfM]
  refine Ja m8 ?_ ?_
  · simp [rfM]
  simp [rfM]
  refine Ja m9 ?_ ?_
  · simp [rfM]
  simp [rfM]
  refine Ja m10 ?_ ?_
  · simp [rfM]
  simp [rfM]
  refine Ja m11 ?_ ?_
  · simp [rfM]
  simp [rfM]
  refine Ja m12 ?_ ?_
  · simp [rfM]
  cases hb : r11.bad
  · simp [rfM, hb]
    refine Jb (.inr rfl) ?_
    simp [Req.av, Chg.av]
  · simp [rfM, hb]
    refine Jb (.inr rfl) ?_
    simp [Req.av, Chg.av, Req.zero, Chg.zero]
def Rep.same (a b : Rep) : Bool := decide (a.client = b.client) && decide (a.num = b.num) && decide (a.code = b.code) && decide (a.vals = b.vals)
end Go.Proofs.YtjlmpdbagmdbiaaDoor.WL
end
section
namespace Go.Proofs.YtjlmpdbagmdbiaaDoor.WL
open Go
set_option maxHeartbeats 4000000
variable {G : Nat → Option AV}
theorem Dgs_3 (a b c : Dg) : [AV.arr 1 (B a.bs), .arr 1 (B b.bs), .arr 1 (B c.bs)] = Dgs [a, b, c] := (rfl)
theorem JIp (b : Blk) : Meets Tryd.prog G Jj7 [b.avS] [] true (.v (.bool b.good)) [] := by
  refine Jc mix JGY ⟨by simp, by simp, by simp⟩ ?_
  unfold Blk.good
  by_cases c1 : b.epoch < 0
  · have d1 : ¬ 0 ≤ b.epoch := by omega
    simp [Blk.avS, c1]
    refine Jb (.inr rfl) ?_
    simp [d1]
  by_cases c2 : 1073741824 < b.epoch
  · have d1 : ¬ b.epoch ≤ 1073741824 := by omega
    simp [Blk.avS, c1, c2]
    refine Jb (.inr rfl) ?_
    simp [d1]
  by_cases c3 : b.height < 1
  · have d1 : ¬ 1 ≤ b.height := by omega
    simp [Blk.avS, c1, c2, c3]
    refine Jb (.inr rfl) ?_
    simp [d1]
  by_cases c4 : 1024 < b.height
  · have d1 : ¬ b.height ≤ 1024 := by omega
    simp [Blk.avS, c1, c2, c3, c4]
    refine Jb (.inr rfl) ?_
    simp [d1]
  by_cases c5 : (8 : Int) < (b.qs.length : Nat)
  · have d1 : ¬ b.qs.length ≤ 8 := by omega
    simp [Blk.avS, c1, c2, c3, c4, c5]
    refine Jb (.inr rfl) ?_
    simp [d1]
  have d : (decide (0 ≤ b.epoch) && decide (b.epoch ≤ 1073741824) && decide (1 ≤ b.height) && decide (b.height ≤ 1024) && decide (b.qs.length ≤ 8)) = true := by
    simp only [Bool.and_eq_true, decide_eq_true_eq]; omega
  rw [d, Bool.true_and]
  generalize hqs : b.qs = qs at *
  simp [Blk.avS, c1, c2, c3, c4, c5, hqs]
  refine go_up qs.length (fun j (_ : Unit) => ∀ i (h : i < qs.length), i < j → qs[i].good = true) (fun j (_ : Unit) c => ⟨[(30, .sl 42 (Reqs qs)), (31, .v (.int .i64 (qs.length : Nat))), (32, .v (.int .i64 (j : Nat)))], [], c + 1⟩) () _ (Weak.re (by simp)) (by intro i _ h; omega) ?_ ?_
  · intro j _ c hj hx
    have hw : IntKind.i64.wrap ((j : Int) + 1) = ((j + 1 : Nat) : Int) := Je (by omega)
    have m1 := JIh (G := G) qs[j]
    simp [hj, Req.av, Chg.av]
    refine Ja m1 ?_ ?_
    · simp [Req.av, Chg.av]
    cases hg : qs[j].good
    · have hf : qs.all Req.good = false := by
        rw [List.all_eq_false]
        exact ⟨qs[j], List.getElem_mem hj, by simp [hg]⟩
      simp
      refine Jb (.inr rfl) ?_
      simp [hf]
    · simp [hw]
      refine ⟨(), _, Weak.re (by simp), ?_⟩
      intro i hi hij
      rcases (show i < j ∨ i = j by omega) with h | rfl
      · exact hx i hi h
      · exact hg
  · intro _ c hx
    have hf : qs.all Req.good = true := by
      rw [List.all_eq_true]
      intro q hq
      obtain ⟨i, hi, rfl⟩ := List.getElem_of_mem hq
      exact hx i hi hi
    simp
    refine Jb (.inr rfl) ?_
    simp [hf]
theorem JCU (bs : Bytes) (b : Blk) (h : bs.length + b.bytes.length ≤ 60000000) (hn : b.qs.length ≤ 1000000) : Meets Tryd.prog G Jcu [.ptr 1000 0 0, b.avS] (wrM 0 bs) true (.tup []) (wrM 1 (bs ++ b.bytes)) := by
  refine Jc mix JF2 ⟨by simp [wrM], by simp, by simp [wrM]⟩ ?_
  have hlen := b.bytes_len
  have hhl := b.head_len
  have hb : bs ++ b.bytes = bs ++ nums [b.epoch, b.height] ++ flatD [b.prev, b.state, b.next] ++ nums [(b.qs.length : Int)] ++ reqsB b.qs := by simp [Blk.bytes, Blk.head]
  have n1 := Jg [b.epoch, b.height]
  have n2 := Jg [(b.qs.length : Int)]
  have n3 : (flatD [b.prev, b.state, b.next]).length = 96 := by simp [flatD]
  simp only [List.length_cons, List.length_nil] at n1 n2
  have m1 := J0 (G := G) bs [b.epoch, b.height] (by simp; omega)
  have m2 := JX (G := G) (bs ++ nums [b.epoch, b.height]) [b.prev, b.state, b.next] (by rw [List.length_append]; simp; omega)
  have m3 := J0 (G := G) (bs ++ nums [b.epoch, b.height] ++ flatD [b.prev, b.state, b.next]) [(b.qs.length : Int)] (by simp only [List.length_append]; simp; omega)
  have hl3 : (bs ++ nums [b.epoch, b.height] ++ flatD [b.prev, b.state, b.next] ++ nums [(b.qs.length : Int)]).length = bs.length + 120 := by simp only [List.length_append]; omega
  rw [hb]
  generalize bs ++ nums [b.epoch, b.height] ++ flatD [b.prev, b.state, b.next] ++ nums [(b.qs.length : Int)] = y3 at *
  generalize bs ++ nums [b.epoch, b.height] ++ flatD [b.prev, b.state, b.next] = y2 at *
  generalize bs ++ nums [b.epoch, b.height] = y1 at *
  generalize hqs : b.qs = qs at *
  have hI1 : [AV.v (.int .i64 (qs.length : Nat))] = I64 [(qs.length : Int)] := rfl
  simp [Blk.avS, wrM, hqs]
  refine Ja m1 ?_ ?_
  · simp [wrM, I64_2]
  simp [wrM, I64_2]
  refine Ja m2 ?_ ?_
  · simp [wrM, Dgs_3, dv]
  simp [wrM, Dgs_3, dv]
  refine Ja m3 ?_ ?_
  · simp [wrM, hI1]
  simp [wrM, hI1]
  obtain ⟨F, hF⟩ : ∃ F : Nat → Bytes, ∀ i, F i = y3 ++ reqsB (qs.take i) := ⟨_, fun _ => rfl⟩
  have hF0 : y3 = F 0 := by rw [hF]; simp [reqsB]
  have hFN : y3 ++ reqsB qs = F qs.length := by rw [hF, List.take_length]
  have hFl : (F qs.length).length = (F 0).length + (reqsB qs).length := by rw [← hFN, ← hF0, List.length_append]
  rw [hFN]
  simp only [hF0]
  refine go_up qs.length (fun j (_ : Unit) => True) (fun j _ c => ⟨[(0, .ptr 1000 0 0), (29, .sl 42 (Reqs qs)), (30, .v (.int .i64 (qs.length : Nat))), (31, .v (.int .i64 (j : Nat)))], [(1000, .var 0 (.node [.row 2000 1 c 0 (F j).length])), (2000, .rows c 1 (B (F j)))], c + 1⟩) () _ (Weak.re0 1000 (by simp)) trivial ?_ ?_
  · intro j _ c hj _
    have hw : IntKind.i64.wrap ((j : Int) + 1) = ((j + 1 : Nat) : Int) := Je (by omega)
    have hle := Jj2 qs (j + 1)
    rw [Jjs qs j hj, List.length_append] at hle
    have hFj : (F j).length = y3.length + (reqsB (qs.take j)).length := by rw [hF, List.length_append]
    have hFs : F j ++ qs[j].bytes = F (j + 1) := by rw [hF, hF, Jjs qs j hj, List.append_assoc]
    have m4 := JHe (G := G) (F j) qs[j] (by omega)
    rw [hFs] at m4
    simp [hj, Req.av, Chg.av]
    refine Ja m4 ?_ ?_
    · simp [wrM, Req.av, Chg.av]
    simp [wrM, hw, Req.av, Chg.av]
    exact ⟨(), _, Weak.re0 1000 (by simp), trivial⟩
  · intro _ c _
    simp
    refine Jb (.inl rfl) ?_
    simp [hFl]
end Go.Proofs.YtjlmpdbagmdbiaaDoor.WL
end
section
namespace Go.Proofs.YtjlmpdbagmdbiaaDoor.WL
open Go
set_option maxHeartbeats 4000000
variable {G : Nat → Option AV}
def Blk.follows (b : Blk) (e h : Int) (p s : Dg) : Bool := b.good && (decide (b.epoch = e) && decide (b.height = h) && decide (b.prev = p) && decide (b.state = s))
end Go.Proofs.YtjlmpdbagmdbiaaDoor.WL
end
section
namespace Go.Proofs.YtjlmpdbagmdbiaaDoor.WL
open Go
set_option maxHeartbeats 4000000
variable {G : Nat → Option AV}
def Req.put : Req := ⟨1, 1, 2, [107], [118], [], Chg.zero⟩
def lenSum (ss : List Bytes) : Nat := (ss.map List.length).sum
theorem JJl (ss : List Bytes) (j : Nat) (h : j < ss.length) : lenSum (ss.take (j + 1)) = lenSum (ss.take j) + ss[j].length := by
  unfold lenSum
  rw [Jbk _ _ h]
  simp only [List.map_append, List.sum_append, List.map_cons, List.map_nil, List.sum_cons, List.sum_nil, Nat.add_zero]
theorem JMU (ss : List Bytes) (j : Nat) : lenSum (ss.take j) ≤ lenSum ss := by
  conv => rhs; rw [← List.take_append_drop j ss]
  simp only [lenSum, List.map_append, List.sum_append]
  omega
end Go.Proofs.YtjlmpdbagmdbiaaDoor.WL
end
section
namespace Go.Proofs.YtjlmpdbagmdbiaaDoor.WL
open Go
set_option maxHeartbeats 4000000
variable {G : Nat → Option AV}
abbrev reqSh : Sh := .st [.int .i64, .int .i64, .st [.int .i64, .str, .str, .str, .st [.int .i64, .int .i64, .int .i64, .st [.ints .u8 32, .int .i64]]]]
theorem JOb (k : IntKind) (a b : Int) : cmpA (.int k) (.v (.int k a)) (.v (.int k b)) = some (decide (a = b)) := by
  simp [cmpA]
  rw [Bool.eq_iff_iff]
  simp
theorem JFn (a b : Bytes) : cmpA .str (.v (.string (mkS a))) (.v (.string (mkS b))) = some (decide (a = b)) := by
  simp [cmpA]
  rw [Bool.eq_iff_iff]
  simp
theorem JHA (a b : Dg) : cmpA (.ints .u8 32) (dv a) (dv b) = some (decide (a = b)) := by
  have e : (natsOf a.bs == natsOf b.bs) = decide (a = b) := by
    rw [Bool.eq_iff_iff, beq_iff_eq, decide_eq_true_eq]
    exact ⟨fun h => Dg.ext' (JE4.1 h), fun h => by rw [h]⟩
  have la : (natsOf a.bs).length = 32 := by simp [natsOf]
  have lb : (natsOf b.bs).length = 32 := by simp [natsOf]
  simp [cmpA, la, lb, e]
theorem JRb (c n k ck ci cn chh c' n' k' ck' ci' cn' chh' : Int) (ke v o ke' v' o' : Bytes) (cr cr' : Dg) :
    cmpA reqSh (.node [.v (.int .i64 c), .v (.int .i64 n), .node [.v (.int .i64 k), .v (.string (mkS ke)), .v (.string (mkS v)), .v (.string (mkS o)), .node [.v (.int .i64 ck), .v (.int .i64 ci), .v (.int .i64 cn), .node [dv cr, .v (.int .i64 chh)]]]])
      (.node [.v (.int .i64 c'), .v (.int .i64 n'), .node [.v (.int .i64 k'), .v (.string (mkS ke')), .v (.string (mkS v')), .v (.string (mkS o')), .node [.v (.int .i64 ck'), .v (.int .i64 ci'), .v (.int .i64 cn'), .node [dv cr', .v (.int .i64 chh')]]]])
    = some (decide (c = c' ∧ n = n' ∧ k = k' ∧ ke = ke' ∧ v = v' ∧ o = o' ∧ ck = ck' ∧ ci = ci' ∧ cn = cn' ∧ cr = cr' ∧ chh = chh')) := by
  have h1 := fun x y : Int => JOb .i64 x y
  unfold cmpA
  simp only [cmpL, h1, JFn, JHA, Option.bind_some, Option.map_some]
  unfold cmpA
  simp only [cmpL, h1, JFn, JHA, Option.bind_some, Option.map_some]
  unfold cmpA
  simp only [cmpL, h1, JFn, JHA, Option.bind_some, Option.map_some]
  unfold cmpA
  simp only [cmpL, h1, JFn, JHA, Option.bind_some, Option.map_some]
  congr 1
  rw [Bool.eq_iff_iff]
  simp [and_assoc]
deriving instance DecidableEq for Chg, Req
theorem JO4 (a b : Req) :
    cmpA reqSh (.node [.v (.int .i64 a.client), .v (.int .i64 a.num), .node [.v (.int .i64 a.kind), .v (.string (mkS a.key)), .v (.string (mkS a.val)), .v (.string (mkS a.old)), .node [.v (.int .i64 a.ch.kind), .v (.int .i64 a.ch.id), .v (.int .i64 a.ch.new), .node [dv a.ch.root, .v (.int .i64 a.ch.height)]]]])
      (.node [.v (.int .i64 b.client), .v (.int .i64 b.num), .node [.v (.int .i64 b.kind), .v (.string (mkS b.key)), .v (.string (mkS b.val)), .v (.string (mkS b.old)), .node [.v (.int .i64 b.ch.kind), .v (.int .i64 b.ch.id), .v (.int .i64 b.ch.new), .node [dv b.ch.root, .v (.int .i64 b.ch.height)]]]])
    = some (decide (a = b)) := by
  rw [JRb]
  obtain ⟨c, n, k, ke, v, o, ⟨ck, ci, cn, cr, chh⟩⟩ := a
  obtain ⟨c', n', k', ke', v', o', ⟨ck', ci', cn', cr', chh'⟩⟩ := b
  congr 1
  rw [Bool.eq_iff_iff, decide_eq_true_eq, decide_eq_true_eq, Req.mk.injEq, Chg.mk.injEq]
end Go.Proofs.YtjlmpdbagmdbiaaDoor.WL
end
section
namespace Go.Proofs.YtjlmpdbagmdbiaaDoor.WL
open Go
set_option maxHeartbeats 4000000
variable {G : Nat → Option AV}
def Blk.great (b : Blk) (m : Nat) : Bool := decide (40 < b.qs.length) || decide (m < (reqsB b.qs).length)
theorem rep3 (z a b c : AV) : (((rep 3 z).set 0 a).set 1 b).set 2 c = [a, b, c] := (rfl)
theorem JHu (b : Blk) (m : Nat) (hm : m ≤ 1000000) (hf : ∀ q ∈ b.qs, q.key.length ≤ reachBytes ∧ q.val.length ≤ reachBytes ∧ q.old.length ≤ reachBytes) :
    Meets Tryd.prog G Jol [b.avS, .v (.int .i64 (m : Nat))] [] true (.v (.bool (b.great m))) [] := by
  refine Jc mix JIa ⟨by simp, by simp, by simp⟩ ?_
  unfold Blk.great
  generalize hqs : b.qs = qs at *
  by_cases c1 : (40 : Int) < (qs.length : Nat)
  · have d1 : 40 < qs.length := by omega
    simp [Blk.avS, hqs, c1]
    refine Jb (.inr rfl) ?_
    simp [d1]
  have d1 : ¬ 40 < qs.length := by omega
  simp [Blk.avS, hqs, c1]
  refine go_up qs.length (fun j (n : Nat) => n = (reqsB (qs.take j)).length ∧ n ≤ m) (fun j n c => ⟨[(1, .v (.int .i64 (m : Nat))), (5, .v (.int .i64 (n : Nat))), (15, .sl 42 (Reqs qs)), (16, .v (.int .i64 (qs.length : Nat))), (17, .v (.int .i64 (j : Nat)))], [], c + 1⟩) 0 _ (Weak.re (by simp)) (by simp [reqsB]) ?_ ?_
  · rintro j n c hj ⟨hn, hn2⟩
    have hw : IntKind.i64.wrap ((j : Int) + 1) = ((j + 1 : Nat) : Int) := Je (by omega)
    have hle := Jj2 qs (j + 1)
    rw [Jjs qs j hj, List.length_append, Req.bytes_len] at hle
    have hs : (reqsB (qs.take (j + 1))).length = n + (100 + (qs[j].key.length + qs[j].val.length + qs[j].old.length)) := by rw [Jjs qs j hj, List.length_append, Req.bytes_len, hn]
    rw [← hn] at hle
    obtain ⟨f1, f2, f3⟩ := hf qs[j] (List.getElem_mem hj)
    unfold reachBytes at f1 f2 f3
    have w1 : IntKind.i64.wrap ((n : Int) + 100) = ((n + 100 : Nat) : Int) := by rw [Jq (by omega)]; omega
    simp [hj, w1, rep3, Req.av, Chg.av]
    generalize qs[j] = q at *
    obtain ⟨ls, hls⟩ : ∃ ls, ls = [q.key, q.val, q.old] := ⟨_, rfl⟩
    have hL : [AV.v (.string (mkS q.key)), .v (.string (mkS q.val)), .v (.string (mkS q.old))] = Strs ls := by rw [hls]; rfl
    rw [hL]
    have hll : ls.length = 3 := by rw [hls]; rfl
    have hsum : lenSum ls = q.key.length + q.val.length + q.old.length := by rw [hls]; simp [lenSum]; omega
    have hfl : ∀ (t : Nat) (h : t < ls.length), ls[t].length ≤ 140737488355328 := by
      intro t h
      have := List.getElem_mem h
      generalize ls[t] = x at *
      rw [hls] at this
      simp at this
      rcases this with rfl | rfl | rfl <;> omega
    refine go_up 3 (fun t (p : Nat) => p = n + 100 + lenSum (ls.take t) ∧ (t = 0 ∨ p ≤ m)) (fun t p c => ⟨[(1, .v (.int .i64 (m : Nat))), (5, .v (.int .i64 (p : Nat))), (15, .sl 42 (Reqs qs)), (16, .v (.int .i64 (qs.length : Nat))), (17, .v (.int .i64 (j : Nat))), (32, .arr 1 (Strs ls)), (33, .v (.int .i64 (t : Nat)))], [], c + 1⟩) (n + 100) _ (Weak.re (by simp)) (by simp [lenSum]) ?_ ?_
    · rintro t p c' ht ⟨hp, hp2⟩
      have hw' : IntKind.i64.wrap ((t : Int) + 1) = ((t + 1 : Nat) : Int) := Je (by omega)
      have ht3 : (t : Int) < 3 := by omega
      have htl : t < ls.length := by omega
      have hs1 := JJl ls t htl
      have hl1 := JMU ls (t + 1)
      have hr := hfl t htl
      obtain ⟨s, hs2⟩ : ∃ s, s = p + ls[t].length := ⟨_, rfl⟩
      have w2 : IntKind.i64.wrap ((p : Int) + (ls[t].length : Nat)) = (s : Int) := by rw [Jq (by omega)]; omega
      by_cases c2 : (m : Int) < (s : Int)
      · have d2 : m < (reqsB qs).length := by omega
        simp [ht, ht3, hll, htl, w2, c2]
        refine Jb (.inr rfl) ?_
        simp [d2]
      · simp [ht, ht3, hll, htl, w2, c2, hw']
        exact ⟨s, _, Weak.re (by simp), by omega, by omega⟩
    · rintro p c' ⟨hp, hp2⟩
      rw [List.take_of_length_le (by omega)] at hp
      simp [hw]
      exact ⟨p, _, Weak.re (by simp), by omega, by omega⟩
  · rintro n c ⟨hn, hn2⟩
    rw [List.take_length] at hn
    have c2 : ¬ (m : Int) < (n : Int) := by omega
    have d2 : ¬ m < (reqsB qs).length := by omega
    simp [c2]
    refine Jb (.inr rfl) ?_
    simp [d1, d2]
end Go.Proofs.YtjlmpdbagmdbiaaDoor.WL
end
section
namespace Go.Proofs.YtjlmpdbagmdbiaaDoor.WL
open Go
set_option maxHeartbeats 4000000
variable {G : Nat → Option AV}
def Blk.same (a b : Blk) : Bool := decide (a.epoch = b.epoch) && decide (a.height = b.height) && decide (a.prev = b.prev) && decide (a.state = b.state) && decide (a.next = b.next) && decide (a.qs = b.qs)
theorem Blk.same_iff (a b : Blk) : a.same b = true ↔ a = b := by
  cases a; cases b
  simp [Blk.same, and_assoc]
theorem JHI (a b : Blk) (hn : a.qs.length ≤ 1000000) : Meets Tryd.prog G JjO [a.avS, b.avS] [] true (.v (.bool (a.same b))) [] := by
  refine Jc mix JLu ⟨by simp, by simp, by simp⟩ ?_
  unfold Blk.same
  by_cases c1 : a.epoch = b.epoch
  case neg =>
    simp [Blk.avS, dv, c1]
    refine Jb (.inr rfl) ?_
    simp
  by_cases c2 : a.height = b.height
  case neg =>
    simp [Blk.avS, dv, c1, c2]
    refine Jb (.inr rfl) ?_
    simp
  by_cases c3 : a.prev = b.prev
  case neg =>
    simp [Blk.avS, dv, c1, c2, c3]
    refine Jb (.inr rfl) ?_
    simp
  by_cases c4 : a.state = b.state
  case neg =>
    simp [Blk.avS, dv, c1, c2, c3, c4]
    refine Jb (.inr rfl) ?_
    simp
  by_cases c5 : a.next = b.next
  case neg =>
    simp [Blk.avS, dv, c1, c2, c3, c4, c5]
    refine Jb (.inr rfl) ?_
    simp
  rw [decide_eq_true c1, decide_eq_true c2, decide_eq_true c3, decide_eq_true c4, decide_eq_true c5]
  obtain ⟨ve, vh, vp, vs, vn, xs⟩ := a
  obtain ⟨ue, uh, up, us, un, ys⟩ := b
  simp only at c1 c2 c3 c4 c5 hn ⊢
  subst c1 c2 c3 c4 c5
  simp only [Bool.true_and]
  by_cases c6 : xs.length = ys.length
  case neg =>
    have d6 : ¬ xs = ys := fun h => c6 (by rw [h])
    have e6 : ¬ (xs.length : Int) = (ys.length : Nat) := by omega
    simp [Blk.avS, dv, c6, e6]
    refine Jb (.inr rfl) ?_
    simp [d6]
  simp [Blk.avS, dv, c6]
  refine go_up xs.length (fun j (_ : Unit) => ∀ i (h : i < xs.length) (h' : i < ys.length), i < j → xs[i] = ys[i]) (fun j (_ : Unit) c => ⟨[(2, .ptr 2 c 0), (3, .ptr 3 c 0), (50, .v (.int .i64 (xs.length : Nat))), (51, .v (.int .i64 (j : Nat)))],
    [(2, .var c (Blk.avS ⟨ve, vh, vp, vs, vn, xs⟩)), (3, .var c (Blk.avS ⟨ve, vh, vp, vs, vn, ys⟩))], c + 1⟩) () _ (Weak.re (by simp [Blk.avS, dv, c6])) (by intro i _ _ h; omega) ?_ ?_
  · intro j _ c hj hx
    have hw : IntKind.i64.wrap ((j : Int) + 1) = ((j + 1 : Nat) : Int) := Je (by omega)
    have hj' : j < ys.length := by omega
    have hcmp := JO4 xs[j] ys[j]
    by_cases c7 : xs[j] = ys[j]
    · rw [decide_eq_true c7] at hcmp
      simp [hj, hj', Blk.avS, dv, Req.av, Chg.av, hcmp, hw]
      refine ⟨(), _, Weak.re (by simp [Blk.avS, dv]), ?_⟩
      intro i hi hi' hij
      rcases (show i < j ∨ i = j by omega) with h | rfl
      · exact hx i hi hi' h
      · exact c7
    · rw [decide_eq_false c7] at hcmp
      have d7 : ¬ xs = ys := fun h => c7 (by subst h; rfl)
      simp [hj, hj', Blk.avS, dv, Req.av, Chg.av, hcmp]
      refine Jb (.inr rfl) ?_
      simp [d7]
  · intro _ c hx
    have d7 : xs = ys := List.ext_getElem c6 fun i h h' => hx i h h' h
    simp [Blk.avS, dv]
    refine Jb (.inr rfl) ?_
    simp [d7]
end Go.Proofs.YtjlmpdbagmdbiaaDoor.WL
end
section
namespace Go.Proofs.YtjlmpdbagmdbiaaDoor.WL
open Go
set_option maxHeartbeats 4000000
variable {G : Nat → Option AV}
theorem JI7 (r : Rd) : Meets Tryd.prog G Jgt [.ptr 1000 0 0] (rdM 0 r) true (r.blk.avR 3000 1) (rdM 1 r.blk' ++ [(3000, .rows 1 42 (Reqs r.blk.qs))]) := by
  refine Jc mix JHo ⟨by simp [rdM], by simp [rdM, Blk.avR], by simp [rdM]⟩ ?_
  obtain ⟨hN, hN2⟩ := r.blkN_eq
  have hblk : r.blk = if (r.b6.rq' r.blkN).bad = true then Blk.zero else ⟨r.inn 0 1073741824, r.b1.inn 1 1024, r.b2.dg, r.b3.dg, r.b4.dg, r.b6.rq r.blkN⟩ := rfl
  have hblk' : r.blk' = r.b6.rq' r.blkN := rfl
  rw [hblk, hblk']
  generalize r.blkN = N at *
  unfold Rd.b6 Rd.b5 Rd.b4 Rd.b3 Rd.b2 Rd.b1 at *
  have m1 := JT (G := G) r 0 1073741824
  generalize r.inn' 0 1073741824 = r1 at *
  have m2 := JT (G := G) r1 1 1024
  generalize r1.inn' 1 1024 = r2 at *
  have m3 := JV (G := G) r2
  generalize r2.dg' = r3 at *
  have m4 := JV (G := G) r3
  generalize r3.dg' = r4 at *
  have m5 := JV (G := G) r4
  generalize r4.dg' = r5 at *
  have m6 := JT (G := G) r5 0 8
  rw [← hN] at m6
  generalize r5.inn' 0 8 = r6 at *
  generalize r.inn 0 1073741824 = a1 at *
  generalize r1.inn 1 1024 = a2 at *
  generalize r2.dg = a3 at *
  generalize r3.dg = a4 at *
  generalize r4.dg = a5 at *
  simp [rdM]
  refine Ja m1 ?_ ?_
  · simp [rdM]
  simp [rdM]
  refine Ja m2 ?_ ?_
  · simp [rdM]
  simp [rdM]
  refine Ja m3 ?_ ?_
  · simp [rdM]
  simp [rdM]
  refine Ja m4 ?_ ?_
  · simp [rdM]
  simp [rdM]
  refine Ja m5 ?_ ?_
  · simp [rdM]
  simp [rdM, dv]
  refine Ja m6 ?_ ?_
  · simp [rdM]
  simp [rdM, dv]
  refine go_up N (fun j (_ : Unit) => True) (fun j _ c => ⟨[(0, .ptr 1000 0 0), (2, .ptr 2 c 0), (3, .ptr 3 c 0), (16, .v (.int .i64 (N : Nat))), (17, .v (.int .i64 (j : Nat)))],
    [(2, .var c (.node [.v (.int .i64 0), .v (.int .i64 0), dv Dg.zero, dv Dg.zero, dv Dg.zero, .v (.slice none 0 0)])), (3, .var c (.node [.v (.int .i64 a1), .v (.int .i64 a2), dv a3, dv a4, dv a5, .row 24 42 c 0 j])), (24, .rows c 42 (Reqs (r6.rq j))),
     (1000, .var 0 (.node [.row 2000 1 c (r6.rq' j).pre.length (r6.rq' j).s.length, .v (.bool (r6.rq' j).bad)])), (2000, .rows c 1 (B ((r6.rq' j).pre ++ (r6.rq' j).s)))], c + 1⟩) () _ (Weak.re0 1000 (by simp [Rd.rq, Rd.rq', dv])) trivial ?_ ?_
  · intro j _ c hj _
    have hw : IntKind.i64.wrap ((j : Int) + 1) = ((j + 1 : Nat) : Int) := Je (by omega)
    have f1 : fitsB (j + 1) 136 := fits (by omega) (by omega)
    have e1 : r6.rq (j + 1) = r6.rq j ++ [(r6.rq' j).req] := rfl
    have e2 : r6.rq' (j + 1) = (r6.rq' j).req' := rfl
    have hl := r6.rq_length j
    generalize r6.rq j = x at *
    generalize r6.rq' j = q at *
    have m7 := JJI (G := G) q
    generalize q.req' = q' at *
    generalize q.req = t at *
    have hS := JHD x t
    simp only [Req.av, Chg.av] at hS
    simp [hj, rdM, dv]
    refine Ja m7 ?_ ?_
    · simp [rdM]
    simp [rdM, f1, hl, hw, hS, dv, Req.av, Chg.av]
    exact ⟨(), _, Weak.re0 1000 (by simp [e1, e2]), trivial⟩
  · intro _ c _
    have hl := r6.rq_length N
    generalize r6.rq N = x at *
    generalize r6.rq' N = q at *
    have m8 := J8 (G := G) q
    simp [rdM, dv]
    refine Ja m8 ?_ ?_
    · simp [rdM]
    cases hb : q.bad
    · simp [rdM, hb, dv]
      refine Jb (.inr rfl) ?_
      simp [Blk.avR, hl, hb, dv]
    · simp [rdM, hb, dv]
      refine Jb (.inr rfl) ?_
      simp [Blk.avR, Blk.zero, hb, dv]
end Go.Proofs.YtjlmpdbagmdbiaaDoor.WL
end
section
namespace Go.Proofs.YtjlmpdbagmdbiaaDoor.WL
open Go
set_option maxHeartbeats 4000000
variable {G : Nat → Option AV}
attribute [local irreducible] sha
attribute [local irreducible] Rd.sig Rd.sig' Rd.blk Rd.blk' Rd.inn Rd.inn' Rd.dg Rd.dg' Rd.rep Rd.rep' repR
theorem I64_5 (a b c d e : Int) : [AV.v (.int .i64 a), .v (.int .i64 b), .v (.int .i64 c), .v (.int .i64 d), .v (.int .i64 e)] = I64 [a, b, c, d, e] := (rfl)
theorem JQp (a : Dg) : [dv a] = Dgs [a] := (rfl)
theorem JOw (r : Rd) : Meets Tryd.prog G Jib [.ptr 1000 0 0] (rdM 0 r) false r.sig.avS (rdM 1 r.sig') := by
  refine (JIe r).freeze ⟨by simp [rdM], by simp [rdM], by simp [rdM]⟩ ?_
  simp [rdM, Sig.avR, Sig.avS, Sig.rows]
theorem JN6 (r : Rd) : Meets Tryd.prog G Jgt [.ptr 1000 0 0] (rdM 0 r) false r.blk.avS (rdM 1 r.blk') := by
  refine (JI7 r).freeze ⟨by simp [rdM], by simp [rdM], by simp [rdM]⟩ ?_
  simp [rdM, Blk.avR, Blk.avS]
theorem JEn (bs : Bytes) (v : Vote) (h : bs.length ≤ 50000000) : Meets Tryd.prog G JhU [.ptr 1000 0 0, v.av] (wrM 0 bs) true (.tup []) (wrM 1 (bs ++ v.head)) := by
  refine Jc mix JJu ⟨by simp [wrM], by simp, by simp [wrM]⟩ ?_
  have m1 := J0 (G := G) bs [v.kind, v.epoch, v.height, v.round, v.src] (by simp; omega)
  have m2 := JX (G := G) (bs ++ nums [v.kind, v.epoch, v.height, v.round, v.src]) [v.dg] (by rw [List.length_append, Jg]; simp; omega)
  have hb : bs ++ v.head = bs ++ nums [v.kind, v.epoch, v.height, v.round, v.src] ++ flatD [v.dg] := by simp [Vote.head, flatD]
  rw [hb]
  generalize bs ++ nums [v.kind, v.epoch, v.height, v.round, v.src] ++ flatD [v.dg] = y2 at *
  generalize bs ++ nums [v.kind, v.epoch, v.height, v.round, v.src] = y1 at *
  simp [wrM, Vote.av]
  refine Ja m1 ?_ ?_
  · simp [wrM, I64_5]
  simp [wrM, I64_5]
  refine Ja m2 ?_ ?_
  · simp [wrM, JQp, dv]
  simp [wrM, JQp, dv]
  refine Jb (.inl rfl) ?_
  simp
theorem JKE (bs : Bytes) (v : Vote) (hk : v.sig.ok = false) : Meets Tryd.prog G JbA [.ptr 1000 0 0, v.av] (wrM 0 bs) true (.v (.bool false)) (wrM 1 bs) := by
  refine Jc mix JBS ⟨by simp [wrM], by simp, by simp [wrM]⟩ ?_
  have m1 := JKl (G := G) [] v.sig hk
  simp [wrM, Vote.av]
  refine Ja m1 ?_ ?_
  · simp [wrM]
  simp [wrM]
  refine Jb (.inr rfl) ?_
  simp
theorem Joz (bs : Bytes) (v : Vote) (hk : v.sig.ok = true) (h : bs.length ≤ 40000000) : Meets Tryd.prog G JbA [.ptr 1000 0 0, v.av] (wrM 0 bs) true (.v (.bool true)) (wrM 1 (bs ++ voteF.wr v)) := by
  refine Jc mix JBS ⟨by simp [wrM], by simp, by simp [wrM]⟩ ?_
  have m1 := JCQ (G := G) [] v.sig hk (by simp)
  have m2 := JEn (G := G) bs v (by omega)
  have hl : v.head.length = 72 := by simp [Vote.head, Jg]
  have m3 := JCQ (G := G) (bs ++ v.head) v.sig hk (by rw [List.length_append]; omega)
  rw [List.append_assoc, ← JDe] at m3
  generalize bs ++ voteF.wr v = y2 at *
  generalize bs ++ v.head = y1 at *
  generalize [] ++ v.sig.bytes = y0 at *
  simp [wrM, Vote.av]
  refine Ja m1 ?_ ?_
  · simp [wrM]
  simp [wrM]
  refine Ja m2 ?_ ?_
  · simp [wrM, Vote.av]
  simp [wrM, Vote.av]
  refine Ja m3 ?_ ?_
  · simp [wrM]
  simp [wrM]
  refine Jb (.inr rfl) ?_
  simp
theorem JIy (r : Rd) : Meets Tryd.prog G JoN [.ptr 1000 0 0] (rdM 0 r) false (voteF.rd r).av (rdM 1 (voteF.rd' r)) := by
  refine Jc mix JJA ⟨by simp [rdM], by simp [rdM], by simp [rdM]⟩ ?_
  rw [JFr, JG9]
  have m1 := JT (G := G) r 1 2
  generalize r.inn 1 2 = a1 at *
  generalize r.inn' 1 2 = r1 at *
  have m2 := JT (G := G) r1 0 1073741824
  generalize r1.inn 0 1073741824 = a2 at *
  generalize r1.inn' 0 1073741824 = r2 at *
  have m3 := JT (G := G) r2 1 1024
  generalize r2.inn 1 1024 = a3 at *
  generalize r2.inn' 1 1024 = r3 at *
  have m4 := JT (G := G) r3 0 1024
  generalize r3.inn 0 1024 = a4 at *
  generalize r3.inn' 0 1024 = r4 at *
  have m5 := JT (G := G) r4 1 63
  generalize r4.inn 1 63 = a5 at *
  generalize r4.inn' 1 63 = r5 at *
  have m6 := JV (G := G) r5
  generalize r5.dg = a6 at *
  generalize r5.dg' = r6 at *
  have m7 := JOw (G := G) r6
  generalize r6.sig = a7 at *
  generalize r6.sig' = r7 at *
  have m8 := J8 (G := G) r7
  simp [rdM]
  refine Ja m1 ?_ ?_
  · simp [rdM]
  simp [rdM]
  refine Ja m2 ?_ ?_
  · simp [rdM]
  simp [rdM]
  refine Ja m3 ?_ ?_
  · simp [rdM]
  simp [rdM]
  refine Ja m4 ?_ ?_
  · simp [rdM]
  simp [rdM]
  refine Ja m5 ?_ ?_
  · simp [rdM]
  simp [rdM]
  refine Ja m6 ?_ ?_
  · simp [rdM]
  simp [rdM]
  refine Ja m7 ?_ ?_
  · simp [rdM]
  simp [rdM]
  refine Ja m8 ?_ ?_
  · simp [rdM]
  simp [rdM]
  cases hb : r7.bad
  · simp [rdM, hb]
    refine Jb (.inr rfl) ?_
    simp [Vote.av, hb, dv]
  · simp [rdM, hb]
    refine Jb (.inr rfl) ?_
    simp [Vote.av, Vote.zero, Sig.avS, Sig.zero, hb, dv]
end Go.Proofs.YtjlmpdbagmdbiaaDoor.WL
end
