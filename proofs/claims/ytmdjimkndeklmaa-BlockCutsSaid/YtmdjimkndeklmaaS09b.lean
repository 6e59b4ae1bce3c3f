/-
  CHAPTER 09: contracts of replies; the reference.
-/
import Derived.Test.YtmdjimkndeklmaaS09a
namespace Go.Proofs.Ytmdjimkndeklmaa.WL
open Go
set_option maxHeartbeats 4000000
variable {G : Nat → Option AV}

theorem qwrep_meets (bs : Bytes) (a : Rep) (h : bs.length + a.bytes.length ≤ 60000000) (hn : a.vals.length ≤ 1000000) : Meets Try.prog G fn_request_WriteReply [.ptr 1000 0 0, a.avS] (wrM 0 bs) true (.tup []) (wrM 1 (bs ++ a.bytes)) := by
  refine meets_of_go mix k_request_WriteReply ⟨by simp [wrM], by simp, by simp [wrM]⟩ ?_
  have hb : a.bytes = nums [a.client, a.num, a.code, (a.vals.length : Int)] ++ txts a.vals := rfl
  rw [hb] at h ⊢
  rw [List.length_append] at h
  have n1 := nums_length [a.client, a.num, a.code, (a.vals.length : Int)]
  have m1 := wnum_meets (G := G) bs [a.client, a.num, a.code, (a.vals.length : Int)] (by simp; omega)
  generalize nums [a.client, a.num, a.code, (a.vals.length : Int)] = x1 at *
  have m2 := wtext_meets (G := G) (bs ++ x1) a.vals (by rw [List.length_append]; omega) (by omega)
  generalize txts a.vals = x2 at *
  rw [← List.append_assoc]
  generalize bs ++ x1 ++ x2 = y2 at *
  generalize bs ++ x1 = y1 at *
  simp [Rep.avS, wrM]
  refine call_intro m1 ?_ ?_
  · simp [wrM, I64_4]
  simp [wrM, I64_4]
  refine call_intro m2 ?_ ?_
  · simp [wrM]
  simp [wrM]
  refine post_end (.inl rfl) ?_
  simp

theorem qsame_meets (a b : Rep) (ha : a.bytes.length ≤ 60000000) (hb : b.bytes.length ≤ 60000000) (hna : a.vals.length ≤ 1000000) (hnb : b.vals.length ≤ 1000000) :
    Meets Try.prog G fn_request_Same [a.avS, b.avS] [] true (.v (.bool (decide (a.bytes = b.bytes)))) [] := by
  refine meets_of_go mix k_request_Same ⟨by simp, by simp, by simp⟩ ?_
  have m1 := qwrep_meets (G := G) [] a (by simpa using ha) hna
  have m2 := qwrep_meets (G := G) [] b (by simpa using hb) hnb
  rw [List.nil_append] at m1 m2
  have b1 := bytes_meets (G := G) a.bytes (by omega)
  have b2 := bytes_meets (G := G) b.bytes (by omega)
  generalize a.bytes = x at *
  generalize b.bytes = y at *
  have hx : List.take x.length x = x := List.take_of_length_le (by omega)
  have hy : List.take y.length y = y := List.take_of_length_le (by omega)
  simp [Rep.avS]
  refine call_intro m1 ?_ ?_
  · simp [wrM, Rep.avS]
  simp [wrM, Rep.avS]
  refine call_intro m2 ?_ ?_
  · simp [wrM, Rep.avS]
  simp [wrM, Rep.avS]
  refine call_intro b1 ?_ ?_
  · simp [wrM]
  simp [wrM, hx]
  refine call_intro b2 ?_ ?_
  · simp [wrM]
  simp [wrM, hy]
  refine post_end (.inr rfl) ?_
  have hbeq : (x == y) = decide (x = y) := by rw [Bool.eq_iff_iff]; simp
  simp [hbeq]

theorem qrrep_meets (r : Rd) : Meets Try.prog G fn_request_ReadReply [.ptr 1000 0 0] (rdM 0 r) true (r.rep.avR 3000 1) (rdM 1 r.rep' ++ [(3000, .rows 1 1 (Strs r.rep.vals))]) := by
  refine meets_of_go mix k_request_ReadReply ⟨by simp [rdM], by simp [rdM, Rep.avR], by simp [rdM]⟩ ?_
  obtain ⟨hN, hN2⟩ := r.repN_eq
  have hrep : r.rep = if (r.p4.tx' r.repN).bad = true then Rep.zero else ⟨r.inn 1 64, r.p1.inn 1 1099511627776, r.p2.inn 0 1024, r.p4.tx r.repN⟩ := rfl
  have hrep' : r.rep' = r.p4.tx' r.repN := rfl
  rw [hrep, hrep']
  generalize r.repN = N at *
  unfold Rd.p4 Rd.p3 Rd.p2 Rd.p1 at *
  have m1 := in_meets (G := G) r 1 64
  generalize r.inn' 1 64 = r1 at *
  have m2 := in_meets (G := G) r1 1 1099511627776
  generalize r1.inn' 1 1099511627776 = r2 at *
  have m3 := in_meets (G := G) r2 0 1024
  generalize r2.inn' 0 1024 = r3 at *
  have m4 := in_meets (G := G) r3 0 256
  rw [← hN] at m4
  generalize r3.inn' 0 256 = r4 at *
  generalize r.inn 1 64 = a1 at *
  generalize r1.inn 1 1099511627776 = a2 at *
  generalize r2.inn 0 1024 = a3 at *
  simp [rdM]
  refine call_intro m1 ?_ ?_
  · simp [rdM]
  simp [rdM]
  refine call_intro m2 ?_ ?_
  · simp [rdM]
  simp [rdM]
  refine call_intro m3 ?_ ?_
  · simp [rdM]
  simp [rdM]
  refine call_intro m4 ?_ ?_
  · simp [rdM]
  simp [rdM]
  refine go_up N (fun j (_ : Unit) => True) (fun j _ c => ⟨[(0, .ptr 1000 0 0), (2, .ptr 2 c 0), (3, .ptr 3 c 0), (12, .v (.int .i64 (N : Nat))), (13, .v (.int .i64 (j : Nat)))],
    [(2, .var c (.node [.v (.int .i64 0), .v (.int .i64 0), .v (.int .i64 0), .v (.slice none 0 0)])), (3, .var c (.node [.v (.int .i64 a1), .v (.int .i64 a2), .v (.int .i64 a3), .row 20 1 c 0 j])), (20, .rows c 1 (Strs (r4.tx j))),
     (1000, .var 0 (.node [.row 2000 1 c (r4.tx' j).pre.length (r4.tx' j).s.length, .v (.bool (r4.tx' j).bad)])), (2000, .rows c 1 (B ((r4.tx' j).pre ++ (r4.tx' j).s)))], c + 1⟩) () _ (Weak.re0 1000 (by simp [Rd.tx, Rd.tx'])) trivial ?_ ?_
  · intro j _ c hj _
    have hw : IntKind.i64.wrap ((j : Int) + 1) = ((j + 1 : Nat) : Int) := w64_succ (by omega)
    have f1 : fitsB (j + 1) 16 := fits (by omega) (by omega)
    have e1 : r4.tx (j + 1) = r4.tx j ++ [(r4.tx' j).text 1024] := rfl
    have e2 : r4.tx' (j + 1) = (r4.tx' j).text' 1024 := rfl
    have hl := r4.tx_length j
    generalize r4.tx j = x at *
    generalize r4.tx' j = q at *
    have m5 := text_meets (G := G) q 1024
    generalize q.text' 1024 = q' at *
    generalize q.text 1024 = t at *
    have hS : Strs x ++ [AV.v (.string (mkS t))] = Strs (x ++ [t]) := by simp [Strs]
    simp [hj, rdM]
    refine call_intro m5 ?_ ?_
    · simp [rdM]
    simp [rdM, f1, hl, hw, hS]
    exact ⟨(), _, Weak.re0 1000 (by simp [e1, e2]), trivial⟩
  · intro _ c _
    have hl := r4.tx_length N
    generalize r4.tx N = x at *
    generalize r4.tx' N = q at *
    have m6 := good_meets (G := G) q
    simp [rdM]
    refine call_intro m6 ?_ ?_
    · simp [rdM]
    cases hb : q.bad
    · simp [rdM, hb]
      refine post_end (.inr rfl) ?_
      simp [Rep.avR, hl, hb]
    · simp [rdM, hb]
      refine post_end (.inr rfl) ?_
      simp [Rep.avR, Rep.zero, hb]

/-! The reference. -/
theorem rqgood_meets (q : Req) : Meets Try.prog G fn_r09_Good [q.av] [] true (.v (.bool q.good)) [] := by
  refine meets_of_go mix k_r09_Good ⟨by simp, by simp, by simp⟩ ?_
  unfold Req.good
  by_cases c1 : q.client < 1
  · have d1 : ¬ 1 ≤ q.client := by omega
    simp [Req.av, Chg.av, c1]
    refine post_end (.inr rfl) ?_
    simp [d1]
  by_cases c2 : 64 < q.client
  · have d1 : ¬ q.client ≤ 64 := by omega
    simp [Req.av, Chg.av, c1, c2]
    refine post_end (.inr rfl) ?_
    simp [d1]
  by_cases c3 : q.num < 1
  · have d1 : ¬ 1 ≤ q.num := by omega
    simp [Req.av, Chg.av, c1, c2, c3]
    refine post_end (.inr rfl) ?_
    simp [d1]
  by_cases c4 : 1099511627776 < q.num
  · have d1 : ¬ q.num ≤ 1099511627776 := by omega
    simp [Req.av, Chg.av, c1, c2, c3, c4]
    refine post_end (.inr rfl) ?_
    simp [d1]
  by_cases c5 : q.kind < 1
  · have d1 : ¬ 1 ≤ q.kind := by omega
    simp [Req.av, Chg.av, c1, c2, c3, c4, c5]
    refine post_end (.inr rfl) ?_
    simp [d1]
  by_cases c6 : 7 < q.kind
  · have d1 : ¬ q.kind ≤ 7 := by omega
    simp [Req.av, Chg.av, c1, c2, c3, c4, c5, c6]
    refine post_end (.inr rfl) ?_
    simp [d1]
  have d1 : 1 ≤ q.client ∧ q.client ≤ 64 ∧ 1 ≤ q.num ∧ q.num ≤ 1099511627776 ∧ 1 ≤ q.kind ∧ q.kind ≤ 7 := by omega
  by_cases e1 : (q.key.length : Int) ≤ 1024
  · have e1n : q.key.length ≤ 1024 := by omega
    by_cases e2 : (q.val.length : Int) ≤ 1024
    · have e2n : q.val.length ≤ 1024 := by omega
      have e3 : (((q.old.length : Nat) : Int) ≤ 1024) = (q.old.length ≤ 1024) := by apply propext; omega
      simp [Req.av, Chg.av, c1, c2, c3, c4, c5, c6, e1, e2]
      refine post_end (.inr rfl) ?_
      simp [d1, e1n, e2n, e3]
    · have e2n : ¬ q.val.length ≤ 1024 := by omega
      simp [Req.av, Chg.av, c1, c2, c3, c4, c5, c6, e1, e2]
      refine post_end (.inr rfl) ?_
      simp [d1, e1n, e2n]
  · have e1n : ¬ q.key.length ≤ 1024 := by omega
    simp [Req.av, Chg.av, c1, c2, c3, c4, c5, c6, e1]
    refine post_end (.inr rfl) ?_
    simp [d1, e1n]

theorem rqnums_meets (ns : List Int) (hn : ns.length ≤ 1000000) : Meets Try.prog G fn_r09_nums [.sl 1 (I64 ns)] [] true (.v (.string (mkS (nums ns)))) [] := by
  refine meets_of_go mix k_r09_nums ⟨by simp, by simp, by simp⟩ ?_
  simp
  refine go_up ns.length (fun j (x : Bytes) => x = nums (ns.take j)) (fun j x c => ⟨[(3, .v (.string (mkS x))), (6, .sl 1 (I64 ns)), (7, .v (.int .i64 (ns.length : Nat))), (8, .v (.int .i64 (j : Nat)))], [], c⟩) [] _ (Weak.refl _) (by simp [nums]) ?_ ?_
  · intro j x c hj hx
    have hw : IntKind.i64.wrap ((j : Int) + 1) = ((j + 1 : Nat) : Int) := w64_succ (by omega)
    have hs := nums_snoc ns j hj
    rw [← hx] at hs
    have hxl : x.length ≤ 8000000 := by rw [hx, nums_length, List.length_take]; omega
    have f1 : fitsS (x.length + 8) := fitS (by omega)
    have m1 := rfnum_meets (G := G) ns[j]
    have l1 := be8_length ns[j]
    generalize be8 ns[j] = y at *
    simp [hj]
    refine call_intro m1 ?_ ?_
    · simp
    simp [f1, l1, hw]
    exact ⟨x ++ y, _, Weak.refl _, hs.symm⟩
  · intro x c hx
    rw [List.take_length] at hx
    subst hx
    simp
    refine post_end (.inr rfl) ?_
    simp

theorem rqread_meets (r : Rd) : Meets Try.prog G fn_r09_Read [.ptr 1000 0 0] (rfM r) true r.req.av (rfM r.req') := by
  refine meets_of_go mix k_r09_Read ⟨by simp [rfM], by simp [Req.av, Chg.av], by simp [rfM]⟩ ?_
  unfold Rd.req Rd.req0 Rd.req' Rd.q10 Rd.q9 Rd.q8 Rd.q7 Rd.q6 Rd.q5 Rd.q4 Rd.q3 Rd.q2 Rd.q1
  have m1 := rin_meets (G := G) r 1 64
  generalize r.inn' 1 64 = r1 at *
  have m2 := rin_meets (G := G) r1 1 1099511627776
  generalize r1.inn' 1 1099511627776 = r2 at *
  have m3 := rin_meets (G := G) r2 1 7
  generalize r2.inn' 1 7 = r3 at *
  have m4 := rtext_meets (G := G) r3 1024
  generalize r3.text' 1024 = r4 at *
  have m5 := rtext_meets (G := G) r4 1024
  generalize r4.text' 1024 = r5 at *
  have m6 := rtext_meets (G := G) r5 1024
  generalize r5.text' 1024 = r6 at *
  have m7 := rnum_meets (G := G) r6
  generalize r6.num' = r7 at *
  have m8 := rnum_meets (G := G) r7
  generalize r7.num' = r8 at *
  have m9 := rnum_meets (G := G) r8
  generalize r8.num' = r9 at *
  have m10 := rnum_meets (G := G) r9
  generalize r9.num' = r10 at *
  have m11 := rdigest_meets (G := G) r10
  generalize r10.dg' = r11 at *
  have m12 := rgood_meets (G := G) r11
  simp [rfM]
  refine call_intro m1 ?_ ?_
  · simp [rfM]
  simp [rfM]
  refine call_intro m2 ?_ ?_
  · simp [rfM]
  simp [rfM]
  refine call_intro m3 ?_ ?_
  · simp [rfM]
  simp [rfM]
  refine call_intro m4 ?_ ?_
  · simp [rfM]
  simp [rfM]
  refine call_intro m5 ?_ ?_
  · simp [rfM]
  simp [rfM]
  refine call_intro m6 ?_ ?_
  · simp [rfM]
  simp [rfM]
  refine call_intro m7 ?_ ?_
  · simp [rfM]
  simp [rfM]
  refine call_intro m8 ?_ ?_
  · simp [rfM]
  simp [rfM]
  refine call_intro m9 ?_ ?_
  · simp [rfM]
  simp [rfM]
  refine call_intro m10 ?_ ?_
  · simp [rfM]
  simp [rfM]
  refine call_intro m11 ?_ ?_
  · simp [rfM]
  simp [rfM]
  refine call_intro m12 ?_ ?_
  · simp [rfM]
  cases hb : r11.bad
  · simp [rfM, hb]
    refine post_end (.inr rfl) ?_
    simp [Req.av, Chg.av]
  · simp [rfM, hb]
    refine post_end (.inr rfl) ?_
    simp [Req.av, Chg.av, Req.zero, Chg.zero]

theorem rqbytes_meets (a : Rep) (h : a.bytes.length ≤ 60000000) (hn : a.vals.length ≤ 1000000) : Meets Try.prog G fn_r09_ReplyBytes [a.avS] [] true (.v (.string (mkS a.bytes))) [] := by
  refine meets_of_go mix k_r09_ReplyBytes ⟨by simp, by simp, by simp⟩ ?_
  have hb : a.bytes = nums [a.client, a.num, a.code, (a.vals.length : Int)] ++ txts a.vals := rfl
  rw [hb] at h ⊢
  rw [List.length_append] at h
  have m1 := rqnums_meets (G := G) [a.client, a.num, a.code, (a.vals.length : Int)] (by simp)
  generalize nums [a.client, a.num, a.code, (a.vals.length : Int)] = x1 at *
  simp [Rep.avS]
  refine call_intro m1 ?_ ?_
  · simp [I64_4]
  simp [I64_4]
  refine go_up a.vals.length (fun j (x : Bytes) => x = x1 ++ txts (a.vals.take j)) (fun j x c => ⟨[(3, .v (.string (mkS x))), (18, .sl 1 (Strs a.vals)), (19, .v (.int .i64 (a.vals.length : Nat))), (20, .v (.int .i64 (j : Nat)))], [], c + 1⟩) x1 _ (Weak.re (by simp)) (by simp [txts]) ?_ ?_
  · intro j x c hj hx
    have hw : IntKind.i64.wrap ((j : Int) + 1) = ((j + 1 : Nat) : Int) := w64_succ (by omega)
    have hs := txts_snoc a.vals j hj
    have hle := txts_take_le a.vals (j + 1)
    rw [hs, List.length_append, txt_length] at hle
    have hxl : x.length + (4 + a.vals[j].length) ≤ 60000000 := by rw [hx, List.length_append]; omega
    have hx2 : x ++ txt a.vals[j] = x1 ++ txts (a.vals.take (j + 1)) := by rw [hx, hs, List.append_assoc]
    have m2 := rftext_meets (G := G) a.vals[j] (by omega)
    have l1 := txt_length a.vals[j]
    have f1 : fitsS (x.length + (4 + a.vals[j].length)) := fitS (by omega)
    generalize txt a.vals[j] = y at *
    simp [hj]
    refine call_intro m2 ?_ ?_
    · simp
    simp [f1, l1, hw]
    exact ⟨x ++ y, _, Weak.re (by simp), hx2⟩
  · intro x c hx
    rw [List.take_length] at hx
    subst hx
    simp
    refine post_end (.inr rfl) ?_
    simp

theorem rqtexts_meets (a b : List Bytes) (ha : a.length ≤ 1000000000) : Meets Try.prog G fn_r09_Texts [.sl 1 (Strs a), .sl 1 (Strs b)] [] true (.v (.bool (decide (a = b)))) [] := by
  refine meets_of_go mix k_r09_Texts ⟨by simp, by simp, by simp⟩ ?_
  have st : ∀ (j : Nat) (h1 : j < a.length) (h2 : j < b.length), a.take j = b.take j → a[j] = b[j] → a.take (j + 1) = b.take (j + 1) := by
    intro j h1 h2 h h3
    rw [take_snoc _ _ h1, take_snoc _ _ h2, h, h3]
  by_cases hl : a.length = b.length
  · simp [hl]
    refine go_up a.length (fun j (_ : Unit) => a.take j = b.take j) (fun j (_ : Unit) c => ⟨[(0, .sl 1 (Strs a)), (1, .sl 1 (Strs b)), (12, .v (.int .i64 (b.length : Nat))), (13, .v (.int .i64 (j : Nat)))], [], c⟩) () _ (Weak.refl _) (by simp) ?_ ?_
    · intro j _ c hj hx
      have hw : IntKind.i64.wrap ((j : Int) + 1) = ((j + 1 : Nat) : Int) := w64_succ (by omega)
      have hj2 : j < b.length := by omega
      by_cases he : a[j] = b[j]
      · simp [hj, hj2, he, hw]
        exact ⟨(), _, Weak.refl _, st j hj hj2 hx he⟩
      · have hne : ¬ a = b := by intro e; subst e; exact he rfl
        have hq : (a[j] == b[j]) = false := beq_eq_false_iff_ne.2 he
        simp [hj, hj2, hq, hw]
        refine post_end (.inr rfl) ?_
        simp [hne]
    · intro _ c hx
      have he : a = b := by rw [List.take_length, hl, List.take_length] at hx; exact hx
      simp [hl]
      refine post_end (.inr rfl) ?_
      simp [he]
  · have hne : ¬ a = b := by intro e; subst e; exact hl rfl
    have c1 : ¬ (a.length : Int) = (b.length : Nat) := by omega
    simp [hl, c1]
    refine post_end (.inr rfl) ?_
    simp [hne]

def Rep.same (a b : Rep) : Bool := decide (a.client = b.client) && decide (a.num = b.num) && decide (a.code = b.code) && decide (a.vals = b.vals)
theorem rqsame_meets (a b : Rep) (ha : a.vals.length ≤ 1000000000) : Meets Try.prog G fn_r09_Same [a.avS, b.avS] [] true (.v (.bool (a.same b))) [] := by
  refine meets_of_go mix k_r09_Same ⟨by simp, by simp, by simp⟩ ?_
  unfold Rep.same
  by_cases c1 : a.client = b.client
  · by_cases c2 : a.num = b.num
    · by_cases c3 : a.code = b.code
      · simp [Rep.avS, c1, c2, c3]
        refine call_intro (rqtexts_meets a.vals b.vals ha) ?_ ?_
        · simp
        simp
        refine post_end (.inr rfl) ?_
        simp
      · simp [Rep.avS, c1, c2, c3]
        refine post_end (.inr rfl) ?_
        simp
    · simp [Rep.avS, c1, c2]
      refine post_end (.inr rfl) ?_
      simp
  · simp [Rep.avS, c1]
    refine post_end (.inr rfl) ?_
    simp
end Go.Proofs.Ytmdjimkndeklmaa.WL
