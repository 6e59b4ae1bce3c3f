/- Texts put together: S13r, S02a, S02b, S02d, S02c, S02e, S02f, S04a, S04b, S03a, S03b, S05a, S03c, S04c, S05c, S13s, S20a. -/
import Derived.Test.YtglkfbhjimnboaaWm7
section
/-
  CHAPTER 13, 08, 14, 15: contracts of the reference: reading.
-/
namespace Go.Proofs.Ytglkfbhjimnboaa.WL
open Go
set_option maxHeartbeats 4000000
variable {G : Nat → Option AV}
attribute [local irreducible] sha
attribute [local irreducible] Rd.sig Rd.sig' Rd.blk Rd.blk' Rd.inn Rd.inn' Rd.dg Rd.dg' Rd.rep Rd.rep' repR

theorem rkread_frz (r : Rd) : Meets Try.prog G fn_r05_Read [.ptr 1000 0 0] (rfM r) false r.sig.avS (rfM r.sig') := by
  refine (rkread_meets r).freeze ⟨by simp [rfM], by simp [rfM], by simp [rfM]⟩ ?_
  simp [rfM, Sig.avR, Sig.avS, Sig.rows]
theorem rbread_frz (r : Rd) : Meets Try.prog G fn_r12_Read [.ptr 1000 0 0] (rfM r) false r.blk.avS (rfM r.blk') := by
  refine (rbread_meets r).freeze ⟨by simp [rfM], by simp [rfM], by simp [rfM]⟩ ?_
  simp [rfM, Blk.avR, Blk.avS]
theorem rqrrep_frz (r : Rd) : Meets Try.prog G fn_r09_ReadReply [.ptr 1000 0 0] (rfM r) false r.rep.avS (rfM r.rep') := by
  refine (rqrrep_meets r).freeze ⟨by simp [rfM], by simp [rfM], by simp [rfM]⟩ ?_
  simp [rfM, Rep.avR, Rep.avS]

theorem rvread_meets (r : Rd) : Meets Try.prog G fn_r13_Read [.ptr 1000 0 0] (rfM r) false (voteF.rd r).av (rfM (voteF.rd' r)) := by
  refine meets_of_go mix k_r13_Read ⟨by simp [rfM], by simp [rfM], by simp [rfM]⟩ ?_
  rw [voteF_rd, voteF_rd']
  have m1 := rin_meets (G := G) r 1 2
  generalize r.inn 1 2 = a1 at *
  generalize r.inn' 1 2 = r1 at *
  have m2 := rin_meets (G := G) r1 0 1073741824
  generalize r1.inn 0 1073741824 = a2 at *
  generalize r1.inn' 0 1073741824 = r2 at *
  have m3 := rin_meets (G := G) r2 1 1024
  generalize r2.inn 1 1024 = a3 at *
  generalize r2.inn' 1 1024 = r3 at *
  have m4 := rin_meets (G := G) r3 0 1024
  generalize r3.inn 0 1024 = a4 at *
  generalize r3.inn' 0 1024 = r4 at *
  have m5 := rin_meets (G := G) r4 1 63
  generalize r4.inn 1 63 = a5 at *
  generalize r4.inn' 1 63 = r5 at *
  have m6 := rdigest_meets (G := G) r5
  generalize r5.dg = a6 at *
  generalize r5.dg' = r6 at *
  have m7 := rkread_frz (G := G) r6
  generalize r6.sig = a7 at *
  generalize r6.sig' = r7 at *
  have m8 := rgood_meets (G := G) r7
  simp [rfM]
  refine call_intro m1 ?_ ?_
  · simp [rfM]
  simp [rfM]
  refine call_intro m2 ?_ ?_
  · simp [rfM]
  simp [rfM]
  refine call_intro m3 ?_ ?_
  · simp [rfM]
  simp [rfM]
  refine call_intro m4 ?_ ?_
  · simp [rfM]
  simp [rfM]
  refine call_intro m5 ?_ ?_
  · simp [rfM]
  simp [rfM]
  refine call_intro m6 ?_ ?_
  · simp [rfM]
  simp [rfM]
  refine call_intro m7 ?_ ?_
  · simp [rfM]
  simp [rfM]
  refine call_intro m8 ?_ ?_
  · simp [rfM]
  simp [rfM]
  cases hb : r7.bad
  · simp [rfM, hb]
    refine post_end (.inr rfl) ?_
    simp [Vote.av, hb, dv]
  · simp [rfM, hb]
    refine post_end (.inr rfl) ?_
    simp [Vote.av, Vote.zero, Sig.avS, Sig.zero, hb, dv]
theorem rvrplan_meets (r : Rd) : Meets Try.prog G fn_r13_ReadPlan [.ptr 1000 0 0] (rfM r) false (planF.rd r).av (rfM (planF.rd' r)) := by
  refine meets_of_go mix k_r13_ReadPlan ⟨by simp [rfM], by simp [rfM], by simp [rfM]⟩ ?_
  rw [planF_rd, planF_rd']
  have m1 := rin_meets (G := G) r 0 1073741824
  generalize r.inn 0 1073741824 = a1 at *
  generalize r.inn' 0 1073741824 = r1 at *
  have m2 := rin_meets (G := G) r1 1 1024
  generalize r1.inn 1 1024 = a2 at *
  generalize r1.inn' 1 1024 = r2 at *
  have m3 := rin_meets (G := G) r2 0 1024
  have hr := r2.inn_range 0 1024 (by omega)
  generalize r2.inn 0 1024 = a3 at *
  generalize r2.inn' 0 1024 = r3 at *
  have m4 := rin_meets (G := G) r3 (-1) (a3 - 1)
  generalize r3.inn (-1) (a3 - 1) = a4 at *
  generalize r3.inn' (-1) (a3 - 1) = r4 at *
  have m5 := rin_meets (G := G) r4 1 63
  generalize r4.inn 1 63 = a5 at *
  generalize r4.inn' 1 63 = r5 at *
  have m6 := rbread_frz (G := G) r5
  generalize r5.blk = a6 at *
  generalize r5.blk' = r6 at *
  have m7 := rkread_frz (G := G) r6
  generalize r6.sig = a7 at *
  generalize r6.sig' = r7 at *
  have m8 := rgood_meets (G := G) r7
  have hw : IntKind.i64.wrap (a3 - 1) = a3 - 1 := w64_id (by omega)
  simp [rfM]
  refine call_intro m1 ?_ ?_
  · simp [rfM, hw]
  simp [rfM, hw]
  refine call_intro m2 ?_ ?_
  · simp [rfM, hw]
  simp [rfM, hw]
  refine call_intro m3 ?_ ?_
  · simp [rfM, hw]
  simp [rfM, hw]
  refine call_intro m4 ?_ ?_
  · simp [rfM]
  simp [rfM]
  refine call_intro m5 ?_ ?_
  · simp [rfM]
  simp [rfM]
  refine call_intro m6 ?_ ?_
  · simp [rfM]
  simp [rfM]
  refine call_intro m7 ?_ ?_
  · simp [rfM]
  simp [rfM]
  refine call_intro m8 ?_ ?_
  · simp [rfM]
  simp [rfM]
  cases hb : r7.bad
  · simp [rfM, hb]
    refine post_end (.inr rfl) ?_
    simp [Plan.av, hb, dv]
  · simp [rfM, hb]
    refine post_end (.inr rfl) ?_
    simp [Plan.av, Plan.zero, Blk.avS, Blk.zero, Sig.avS, Sig.zero, hb, dv]
theorem Rd.flt_inn (r : Rd) (lo hi : Int) : (r.inn' lo hi).flt := by
  unfold Rd.inn'
  split
  · exact r.flt_skip 8
  · exact Rd.flt_fault
theorem rtread_meets (r : Rd) : Meets Try.prog G fn_r14_Read [.ptr 1000 0 0] (rfM r) false (certF.rd r).av (rfM (certF.rd' r)) := by
  refine meets_of_go mix k_r14_Read ⟨by simp [rfM], by simp [rfM], by simp [rfM]⟩ ?_
  rw [certF_rd, certF_rd']
  have hN : ((r.certN : Nat) : Int) = (r.inn' 0 1024).inn 1 10 ∧ r.certN ≤ 10 := by
    have := count10 (r.inn' 0 1024)
    unfold Rd.certN
    omega
  obtain ⟨hN, hN2⟩ := hN
  generalize r.certN = N at *
  have m1 := rin_meets (G := G) r 0 1024
  generalize r.inn 0 1024 = a1 at *
  generalize r.inn' 0 1024 = r1 at *
  have m2 := rin_meets (G := G) r1 1 10
  rw [← hN] at m2
  clear hN
  have hflt := r1.flt_inn 1 10
  generalize r1.inn' 1 10 = r2 at *
  simp [rfM]
  refine call_intro m1 ?_ ?_
  · simp [rfM]
  simp [rfM]
  refine call_intro m2 ?_ ?_
  · simp [rfM]
  simp [rfM]
  obtain ⟨L, hL⟩ : ∃ L : Nat → List Vote, ∀ i, L i = (repR (fun _ => voteF) r2 i).1 := ⟨_, fun _ => rfl⟩
  obtain ⟨R, hR⟩ : ∃ R : Nat → Rd, ∀ i, R i = (repR (fun _ => voteF) r2 i).2 := ⟨_, fun _ => rfl⟩
  have hL0 : L 0 = [] := by rw [hL]; simp only [repR]
  have hR0 : r2 = R 0 := by rw [hR]; simp only [repR]
  have hLl : ∀ i, (L i).length = i := fun i => by rw [hL]; exact repR_length _ r2 i
  have hst : ∀ j, j ≤ N → (R j).bad = true → R j = Rd.fault ∧ R N = Rd.fault := by
    intro j hj hb
    rw [hR] at hb
    exact ⟨by rw [hR]; exact repR_flt (fun _ => voteF_law) r2 hflt j hb, by rw [hR]; exact repR_stop (fun _ => voteF_law) r2 hflt j hb N hj⟩
  rw [← hL, ← hR]
  rw [hR0]
  refine go_up N (fun j (_ : Unit) => True) (fun j _ c => ⟨[(0, .ptr 1000 0 0), (2, .ptr 2 c 0), (3, .ptr 3 c 0), (4, .v (.int .i64 (N : Nat))), (5, .v (.int .i64 (j : Nat)))],
    [(2, .var c (.node [.v (.int .i64 0), .v (.slice none 0 0)])), (3, .var c (.node [.v (.int .i64 a1), .row 25 41 c 0 j])), (25, .rows c 41 (Votes (L j))),
     (1000, .var 0 (.node [.v (.string (mkS (R j).s)), .v (.bool (R j).bad)]))], c + 1⟩) () _ (Weak.re0 1000 (by simp [hL0])) trivial ?_ ?_
  · intro j _ c hj _
    have hw : IntKind.i64.wrap ((j : Int) + 1) = ((j + 1 : Nat) : Int) := w64_succ (by omega)
    have f1 : fitsB (j + 1) 152 := fits (by omega) (by omega)
    have e1 : L (j + 1) = L j ++ [voteF.rd (R j)] := by rw [hL, hL, hR]; simp only [repR]
    have e2 : R (j + 1) = voteF.rd' (R j) := by rw [hR, hR]; simp only [repR]
    have hlj := hLl j
    have hs := hst j (by omega)
    have m8 := rgood_meets (G := G) (R j)
    cases hb : (R j).bad
    · generalize R j = q at *
      have m3 := rvread_meets (G := G) q
      generalize voteF.rd q = v at *
      generalize voteF.rd' q = q1 at *
      generalize L j = x at *
      have hS := Votes_snoc x v
      rw [hb] at m8
      simp [hj]
      refine call_intro m8 ?_ ?_
      · simp [rfM, hb]
      simp [rfM, hb]
      refine call_intro m3 ?_ ?_
      · simp [rfM, hb]
      simp [rfM, f1, hlj, hS]
      simp [hw]
      exact ⟨(), _, Weak.re0 1000 (by simp [e1, e2]), trivial⟩
    · obtain ⟨k1, k2⟩ := hs hb
      rw [k2]
      rw [k1] at m8
      simp [hj, k1, Rd.fault]
      refine call_intro m8 ?_ ?_
      · simp [rfM, Rd.fault]
      simp [rfM, Rd.fault]
      refine call_intro m8 ?_ ?_
      · simp [rfM, Rd.fault]
      simp [rfM, Rd.fault]
      refine post_end (.inr rfl) ?_
      simp [Cert.av, Cert.zero]
  · intro _ c _
    have hlN := hLl N
    generalize R N = q at *
    generalize L N = x at *
    have m8 := rgood_meets (G := G) q
    have htx : List.take N x = x := List.take_of_length_le (by omega)
    simp [rfM]
    refine call_intro m8 ?_ ?_
    · simp [rfM]
    simp [rfM]
    cases hb : q.bad
    · simp [rfM, hb]
      refine post_end (.inr rfl) ?_
      simp [Cert.av, hb, hlN, htx]
    · simp [rfM, hb]
      refine post_end (.inr rfl) ?_
      simp [Cert.av, Cert.zero, hb]
theorem rcread_meets (r : Rd) : Meets Try.prog G fn_r08_Read [.ptr 1000 0 0] (rfM r) false (confF.rd r).av (rfM (confF.rd' r)) := by
  refine meets_of_go mix k_r08_Read ⟨by simp [rfM], by simp [rfM], by simp [rfM]⟩ ?_
  rw [confF_rd, confF_rd']
  have hN : ((r.confN : Nat) : Int) = (r.inn' 0 1073741824).inn 1 10 ∧ r.confN ≤ 10 := by
    have := count10 (r.inn' 0 1073741824)
    unfold Rd.confN
    omega
  obtain ⟨hN, hN2⟩ := hN
  generalize r.confN = N at *
  have m1 := rin_meets (G := G) r 0 1073741824
  generalize r.inn 0 1073741824 = a1 at *
  generalize r.inn' 0 1073741824 = r1 at *
  have m2 := rin_meets (G := G) r1 1 10
  rw [← hN] at m2
  clear hN
  generalize r1.inn' 1 10 = r2 at *
  simp [rfM]
  refine call_intro m1 ?_ ?_
  · simp [rfM]
  simp [rfM]
  refine call_intro m2 ?_ ?_
  · simp [rfM]
  simp [rfM]
  obtain ⟨L, hL⟩ : ∃ L : Nat → List Mem, ∀ i, L i = (repR memF r2 i).1 := ⟨_, fun _ => rfl⟩
  obtain ⟨R, hR⟩ : ∃ R : Nat → Rd, ∀ i, R i = (repR memF r2 i).2 := ⟨_, fun _ => rfl⟩
  have hL0 : L 0 = [] := by rw [hL]; simp only [repR]
  have hR0 : r2 = R 0 := by rw [hR]; simp only [repR]
  have hLl : ∀ i, (L i).length = i := fun i => by rw [hL]; exact repR_length memF r2 i
  rw [← hL, ← hR]
  rw [hR0]
  refine go_up N (fun j (_ : Unit) => lastId (L j) ≤ 63 ∧ 0 ≤ lastId (L j)) (fun j _ c => ⟨[(0, .ptr 1000 0 0), (2, .ptr 2 c 0), (3, .ptr 3 c 0), (4, .v (.int .i64 (N : Nat))), (5, .v (.int .i64 (lastId (L j)))), (6, .v (.int .i64 (j : Nat)))],
    [(2, .var c (.node [.v (.int .i64 0), .v (.slice none 0 0)])), (3, .var c (.node [.v (.int .i64 a1), .row 37 34 c 0 j])), (37, .rows c 34 (Mems (L j))),
     (1000, .var 0 (.node [.v (.string (mkS (R j).s)), .v (.bool (R j).bad)]))], c + 1⟩) () _ (Weak.re0 1000 (by simp [hL0])) (by simp [hL0]) ?_ ?_
  · intro j _ c hj hlast
    have hw : IntKind.i64.wrap ((j : Int) + 1) = ((j + 1 : Nat) : Int) := w64_succ (by omega)
    have f1 : fitsB (j + 1) 48 := fits (by omega) (by omega)
    have e1 : L (j + 1) = L j ++ [(memF (L j)).rd (R j)] := by rw [hL, hL, hR]; simp only [repR]
    have e2 : R (j + 1) = (memF (L j)).rd' (R j) := by rw [hR, hL, hR]; simp only [repR]
    have e3 : ∀ l r, (memF l).rd r = ⟨r.inn (lastId l + 1) 63, ((r.inn' (lastId l + 1) 63).inn' 0 6).dg, (r.inn' (lastId l + 1) 63).inn 0 6⟩ := fun _ _ => rfl
    have e4 : ∀ l r, (memF l).rd' r = ((r.inn' (lastId l + 1) 63).inn' 0 6).dg' := fun _ _ => rfl
    rw [e3] at e1
    rw [e4] at e2
    have hlj := hLl j
    have hw2 : IntKind.i64.wrap (lastId (L j) + 1) = lastId (L j) + 1 := w64_id (by omega)
    generalize hln : lastId (L j) = ln at *
    have hri : (R j).inn (ln + 1) 63 ≤ 63 ∧ 0 ≤ (R j).inn (ln + 1) 63 := by
      unfold Rd.inn Rd.inOk
      split
      · rename_i k
        simp only [Bool.and_eq_true, decide_eq_true_eq] at k
        omega
      · omega
    generalize R j = q at *
    have m3 := rin_meets (G := G) q (ln + 1) 63
    generalize q.inn (ln + 1) 63 = b1 at *
    generalize q.inn' (ln + 1) 63 = q1 at *
    have m4 := rin_meets (G := G) q1 0 6
    generalize q1.inn 0 6 = b2 at *
    generalize q1.inn' 0 6 = q2 at *
    have m5 := rdigest_meets (G := G) q2
    generalize q2.dg = b3 at *
    generalize q2.dg' = q3 at *
    generalize L j = x at *
    have hS := Mems_snoc x ⟨b1, b3, b2⟩
    simp only [Mem.av, dv] at hS
    simp [hj, rfM, hw2]
    refine call_intro m3 ?_ ?_
    · simp [rfM]
    simp [rfM]
    refine call_intro m4 ?_ ?_
    · simp [rfM]
    simp [rfM]
    refine call_intro m5 ?_ ?_
    · simp [rfM]
    simp [rfM, f1, hlj, hS, dv]
    simp [hw]
    refine ⟨(), _, Weak.re0 1000 (by simp [e1, e2]), ?_⟩
    show lastId (L (j + 1)) ≤ 63 ∧ 0 ≤ lastId (L (j + 1))
    rw [e1, lastId_snoc]
    exact hri
  · intro _ c hlast
    have hlN := hLl N
    generalize R N = q at *
    generalize L N = x at *
    have m8 := rgood_meets (G := G) q
    have htx : List.take N x = x := List.take_of_length_le (by omega)
    simp [rfM]
    refine call_intro m8 ?_ ?_
    · simp [rfM]
    simp [rfM]
    cases hb : q.bad
    · simp [rfM, hb]
      refine post_end (.inr rfl) ?_
      simp [Conf.av, hb, hlN, htx]
    · simp [rfM, hb]
      refine post_end (.inr rfl) ?_
      simp [Conf.av, Conf.zero, hb]
theorem rlread_meets (r : Rd) : Meets Try.prog G fn_r15_Read [.ptr 1000 0 0] (rfM r) false (linkF.rd r).av (rfM (linkF.rd' r)) := by
  refine meets_of_go mix k_r15_Read ⟨by simp [rfM], by simp [rfM], by simp [rfM]⟩ ?_
  rw [linkF_rd, linkF_rd']
  have m1 := rbread_frz (G := G) r
  generalize r.blk = a1 at *
  generalize r.blk' = r1 at *
  have m2 := rtread_meets (G := G) r1
  generalize certF.rd r1 = a2 at *
  generalize certF.rd' r1 = r2 at *
  have m3 := rcread_meets (G := G) r2
  generalize confF.rd r2 = a3 at *
  generalize confF.rd' r2 = r3 at *
  have m8 := rgood_meets (G := G) r3
  simp [rfM]
  refine call_intro m1 ?_ ?_
  · simp [rfM]
  simp [rfM]
  refine call_intro m2 ?_ ?_
  · simp [rfM]
  simp [rfM]
  refine call_intro m3 ?_ ?_
  · simp [rfM]
  simp [rfM]
  refine call_intro m8 ?_ ?_
  · simp [rfM]
  simp [rfM]
  cases hb : r3.bad
  · simp [rfM, hb]
    refine post_end (.inr rfl) ?_
    simp [Lnk.av, hb]
  · simp [rfM, hb]
    refine post_end (.inr rfl) ?_
    simp [Lnk.av, Lnk.zero, Blk.avS, Blk.zero, Cert.av, Cert.zero, Conf.av, Conf.zero, hb, dv]
end Go.Proofs.Ytglkfbhjimnboaa.WL

end
section
/-
  CHAPTER 02: contracts: words.
-/
namespace Go.Proofs.Ytglkfbhjimnboaa.WL
open Go
set_option maxHeartbeats 4000000

end Go.Proofs.Ytglkfbhjimnboaa.WL

end
section
/-
  CHAPTER 02: contracts: a block.
-/
namespace Go.Proofs.Ytglkfbhjimnboaa.WL
open Go
set_option maxHeartbeats 4000000

attribute [local irreducible] rounds grow table

/-- The program's variable. -/
def Gt : Nat → Option AV := fun n => if n = 0 then some (.arr 1 (U table)) else none
def St.av (s : St) : AV := .arr 1 (U s.list)
/-- A state variable. -/
def stM (s : St) : List (Nat × Loc) := [(1000, .var 0 s.av)]

theorem words_get (b : Bytes) (j : Nat) (h : j < 16) : (words b)[j]? = some (word4 (b.getD (4 * j) 0) (b.getD (4 * j + 1) 0) (b.getD (4 * j + 2) 0) (b.getD (4 * j + 3) 0)) := by simp [words, h]

theorem grow_take (w : List UInt32) (n k : Nat) (h : w.length = k) : (grow n w).take k = w := by
  induction n with
  | zero => simp [grow_zero, ← h]
  | succ n ih => rw [grow_succ, List.take_append_of_le_length (by rw [grow_length]; omega), ih]
/-- The next word, out of an array with room behind it. -/
theorem next_get (w : List UInt32) (z : List UInt32) (k : Nat) (hk : k ≤ w.length) (h0 : 0 < k) : (w ++ z)[w.length - k]? = some (w.getD (w.length - k) 0) := by
  rw [List.getElem?_append_left (by omega), List.getD_eq_getElem?_getD, List.getElem?_eq_getElem (by omega)]
  rfl
theorem grow_set (w : List UInt32) (n : Nat) (v : UInt32) : (w ++ zeros32 (n + 1)).set w.length v = (w ++ [v]) ++ zeros32 n := by
  rw [List.set_append_right _ _ (Nat.le_refl _), Nat.sub_self, List.append_assoc]
  rfl
def plusL (s t : St) (j : Nat) : List UInt32 := (s.plus t).list.take j ++ s.list.drop j
theorem plusL_get (s t : St) (j : Nat) (h : j < 8) : (plusL s t j)[j]? = some (s.list.getD j 0) ∧ (plusL s t j).set j (s.list.getD j 0 + t.list.getD j 0) = plusL s t (j + 1) ∧ t.list[j]? = some (t.list.getD j 0) := by
  match j, h with
  | 0, _ => exact ⟨rfl, rfl, rfl⟩
  | 1, _ => exact ⟨rfl, rfl, rfl⟩
  | 2, _ => exact ⟨rfl, rfl, rfl⟩
  | 3, _ => exact ⟨rfl, rfl, rfl⟩
  | 4, _ => exact ⟨rfl, rfl, rfl⟩
  | 5, _ => exact ⟨rfl, rfl, rfl⟩
  | 6, _ => exact ⟨rfl, rfl, rfl⟩
  | 7, _ => exact ⟨rfl, rfl, rfl⟩
@[simp] theorem plusL_length (s t : St) (j : Nat) (h : j ≤ 8) : (plusL s t j).length = 8 := by
  have h1 : (s.plus t).list.length = 8 := rfl
  have h2 : s.list.length = 8 := rfl
  simp only [plusL, List.length_append, List.length_take, List.length_drop, h1, h2]
  omega
theorem plusL_8 (s t : St) : plusL s t 8 = (s.plus t).list := rfl
theorem plusL_0 (s t : St) : plusL s t 0 = s.list := rfl
theorem comp_eq (s : St) (b : Bytes) (w : List UInt32) (N : Nat) (hN : N = 64) (h : grow 48 (words b) = w) : comp s b = s.plus (rounds w N s) := by subst hN h; rfl
theorem getD_get (l : List UInt32) (j : Nat) (h : j < l.length) : l[j]? = some (l.getD j 0) := by
  rw [List.getD_eq_getElem?_getD, List.getElem?_eq_getElem h]
  rfl
theorem w64_sub {a b : Nat} (h : b ≤ a) (h2 : a < 4611686018427387904) : IntKind.i64.wrap ((a : Int) - (b : Int)) = ((a - b : Nat) : Int) := by rw [IntKind.wrap_i64]; omega

def i16 (j : Nat) : Int := ((16 + j : Nat) : Int)
@[simp] theorem i16_0 : i16 0 = 16 := rfl
@[simp] theorem i16_48 : i16 48 = 64 := rfl
theorem i16_eq (j : Nat) : i16 j = 16 + (j : Int) := by simp [i16]
theorem shr3 (x : UInt32) : w32 x / (8 : Int) = w32 (x >>> 3) := by have := u32_shr x 3 (by decide); simpa using this
theorem shr10 (x : UInt32) : w32 x / (1024 : Int) = w32 (x >>> 10) := by have := u32_shr x 10 (by decide); simpa using this
end Go.Proofs.Ytglkfbhjimnboaa.WL

end
section
/-
  CHAPTER 02: contracts: the reference's block.
-/
namespace Go.Proofs.Ytglkfbhjimnboaa.WL
open Go
set_option maxHeartbeats 4000000
attribute [local irreducible] rounds grow table

theorem getD_getB (l : Bytes) (j : Nat) (h : j < l.length) : l[j]? = some (l.getD j 0) := by
  rw [List.getD_eq_getElem?_getD, List.getElem?_eq_getElem h]
  rfl
end Go.Proofs.Ytglkfbhjimnboaa.WL

end
section
/-
  CHAPTER 02: contracts: Of.
-/
namespace Go.Proofs.Ytglkfbhjimnboaa.WL
open Go
set_option maxHeartbeats 4000000
attribute [local irreducible] comp hb sha

/-- Pieces of bytes. -/
def Bss (ps : List Bytes) : List AV := ps.map fun p => .sl 1 (B p)
@[simp] theorem Bss_length (ss : List Bytes) : (Bss ss).length = ss.length := by simp [Bss]
@[simp] theorem Bss_closed (ss : List Bytes) : closeds (Bss ss) = true := by simp [Bss, closeds_all]
@[simp] theorem Bss_getElem (n : Nat) (a : List Bytes) (h : n < (Bss a).length) : (Bss a)[n] = .sl 1 (B (a[n]'(by simpa using h))) := by simp [Bss]
@[simp] theorem Bss_get (n : Nat) (a : List Bytes) : (Bss a)[n]? = (a[n]?).map fun p => .sl 1 (B p) := by simp [Bss]

theorem U_iv : U iv.list = [AV.v (.int .u32 1779033703), .v (.int .u32 3144134277), .v (.int .u32 1013904242), .v (.int .u32 2773480762), .v (.int .u32 1359893119), .v (.int .u32 2600822924), .v (.int .u32 528734635), .v (.int .u32 1541459225)] := rfl
/-- Bytes laid over others. -/
def over (x p : Bytes) (r : Nat) : Bytes := x.take r ++ p ++ x.drop (r + p.length)
theorem splice_B (x p : Bytes) (r : Nat) : splice (B x) r (B p) = B (over x p r) := by simp [splice, over]
theorem over_length (x p : Bytes) (r : Nat) (h : r + p.length ≤ x.length) : (over x p r).length = x.length := by
  simp only [over, List.length_append, List.length_take, List.length_drop]
  omega
theorem over_take (x p d : Bytes) (r : Nat) (h : r + p.length ≤ x.length) (hd : x.take r = d) : (over x p r).take (r + p.length) = d ++ p := by
  have hl : d.length = r := by rw [← hd, List.length_take]; omega
  rw [over, hd, List.take_append_of_le_length (by rw [List.length_append]; omega)]
  exact List.take_of_length_le (by rw [List.length_append]; omega)

/-- Pieces, one behind the other. -/
def cat (ps : List Bytes) : Bytes := ps.flatten
@[simp] theorem cat_nil : cat [] = [] := rfl
theorem cat_snoc (ps : List Bytes) (j : Nat) (h : j < ps.length) : cat (ps.take (j + 1)) = cat (ps.take j) ++ ps[j] := flat_snoc ps j h
theorem cat_take_le (ps : List Bytes) (j : Nat) : (cat (ps.take j)).length ≤ (cat ps).length := flat_take_le ps j
def i56 (i : Nat) : Int := ((56 + i : Nat) : Int)
theorem i56_eq (i : Nat) : i56 i = 56 + (i : Int) := by simp [i56]
def r1 (i : Nat) : Int := ((i + 1 : Nat) : Int)
theorem r1_eq (i : Nat) : r1 i = (i : Int) + 1 := by simp [r1]
theorem over_mark (x d : Bytes) (r : Nat) (hx : x.length = 64) (hd : d.length = r) (h : x.take r = d) (hr : r < 64) : over (x.set r 128) (zeros (63 - r)) (r + 1) = d ++ 128 :: zeros (63 - r) := by
  have h1 : (x.set r 128).take (r + 1) = d ++ [128] := by
    rw [take_snoc _ _ (by rw [List.length_set]; omega), List.take_set_of_le (Nat.le_refl _), h]
    simp
  rw [over, h1, List.drop_of_length_le (by simp; omega)]
  simp
theorem drop_mark (d : Bytes) (r k : Nat) (hd : d.length = r) (h : r < 64 - k) : (d ++ 128 :: zeros (63 - r)).drop (64 - k) = zeros k := by
  rw [List.drop_append, List.drop_of_length_le (by omega), hd, List.nil_append, show 64 - k - r = (63 - k - r) + 1 by omega, List.drop_succ_cons, zeros_drop]
  congr 1
  omega
theorem take_mark (d : Bytes) (r : Nat) (hd : d.length = r) (h : r < 56) : (d ++ 128 :: zeros (63 - r)).take 56 = d ++ 128 :: zeros (55 - r) := by
  rw [List.take_append, List.take_of_length_le (by omega), hd, show 56 - r = (55 - r) + 1 by omega, List.take_succ_cons, zeros_take]
  congr 3
  omega
theorem bytes_at (e : St) (i : Nat) (h : i < 32) (h2 : i < e.bytes.length := by simp; omega) : e.bytes[i] = (e.list.getD (i / 4) 0 >>> UInt32.ofNat (24 - 8 * (i % 4))).toUInt8 := by
  have z : ∀ x : UInt32, x >>> UInt32.ofNat 0 = x := fun x => by simp
  match i, h, h2 with
  | 0, _, _ => rfl
  | 1, _, _ => rfl
  | 2, _, _ => rfl
  | 3, _, _ => show _ = (e.list.getD 0 0 >>> UInt32.ofNat 0).toUInt8; rw [z]; rfl
  | 4, _, _ => rfl
  | 5, _, _ => rfl
  | 6, _, _ => rfl
  | 7, _, _ => show _ = (e.list.getD 1 0 >>> UInt32.ofNat 0).toUInt8; rw [z]; rfl
  | 8, _, _ => rfl
  | 9, _, _ => rfl
  | 10, _, _ => rfl
  | 11, _, _ => show _ = (e.list.getD 2 0 >>> UInt32.ofNat 0).toUInt8; rw [z]; rfl
  | 12, _, _ => rfl
  | 13, _, _ => rfl
  | 14, _, _ => rfl
  | 15, _, _ => show _ = (e.list.getD 3 0 >>> UInt32.ofNat 0).toUInt8; rw [z]; rfl
  | 16, _, _ => rfl
  | 17, _, _ => rfl
  | 18, _, _ => rfl
  | 19, _, _ => show _ = (e.list.getD 4 0 >>> UInt32.ofNat 0).toUInt8; rw [z]; rfl
  | 20, _, _ => rfl
  | 21, _, _ => rfl
  | 22, _, _ => rfl
  | 23, _, _ => show _ = (e.list.getD 5 0 >>> UInt32.ofNat 0).toUInt8; rw [z]; rfl
  | 24, _, _ => rfl
  | 25, _, _ => rfl
  | 26, _, _ => rfl
  | 27, _, _ => show _ = (e.list.getD 6 0 >>> UInt32.ofNat 0).toUInt8; rw [z]; rfl
  | 28, _, _ => rfl
  | 29, _, _ => rfl
  | 30, _, _ => rfl
  | 31, _, _ => show _ = (e.list.getD 7 0 >>> UInt32.ofNat 0).toUInt8; rw [z]; rfl
  | n + 32, h, _ => exact absurd h (by omega)
end Go.Proofs.Ytglkfbhjimnboaa.WL

end
section
/-
  CHAPTER 02: contracts: a pair, the reference's numbers and padding.
-/
namespace Go.Proofs.Ytglkfbhjimnboaa.WL
open Go
set_option maxHeartbeats 4000000
attribute [local irreducible] comp hb sha

theorem B_one (m : UInt8) : B [m] = [bv m] := rfl
theorem quo_pow (M i : Nat) (d : Nat) (hd : d = 256) : M / 256 ^ (i + 1) = M / 256 ^ i / d := by
  rw [hd, Nat.pow_succ, Nat.div_div_eq_div_mul]
theorem be8_at (M i : Nat) (h : i < 8) : (be8 (M : Nat)).drop (8 - (i + 1)) = u8 ((M / 256 ^ i : Nat) : Int) :: (be8 (M : Nat)).drop (8 - i) := by
  match i, h with
  | 0, _ => simp [be8]
  | 1, _ => simp [be8]
  | 2, _ => simp [be8]
  | 3, _ => simp [be8]
  | 4, _ => simp [be8]
  | 5, _ => simp [be8]
  | 6, _ => simp [be8]
  | 7, _ => simp [be8]
end Go.Proofs.Ytglkfbhjimnboaa.WL

end
section
/-
  CHAPTER 02: contracts: the reference's digest.
-/
namespace Go.Proofs.Ytglkfbhjimnboaa.WL
open Go
set_option maxHeartbeats 4000000
attribute [local irreducible] comp hb sha

theorem list_len (s : St) : s.list.length = 8 := (rfl)
end Go.Proofs.Ytglkfbhjimnboaa.WL

end
section
/-
  CHAPTER 04: contracts of the program.
-/
namespace Go.Proofs.Ytglkfbhjimnboaa.WL
open Go
set_option maxHeartbeats 4000000
attribute [local irreducible] comp hb sha leafD pairD secD shutD bitD wholeD pubD ofD

@[simp] theorem le_max16 : 16 ≤ maxLen := by decide
theorem Dgs_snoc2 (x : List Dg) (p q : Dg) : Dgs x ++ [AV.arr 1 (B p.bs), AV.arr 1 (B q.bs)] = Dgs (x ++ [p, q]) := by simp [Dgs]
theorem cat_three (a b c : Bytes) : cat [a, b, c] = a ++ (b ++ c) := by simp [cat]
theorem cat_one (a : Bytes) : cat [a] = a := by simp [cat]
/-- Eight bytes of two numbers, so far. -/
def nums2 (a b : Int) (i : Nat) : Bytes := ((be8 a).take i ++ zeros (8 - i)) ++ ((be8 b).take i ++ zeros (8 - i))
theorem nums2_len (a b : Int) (i : Nat) (h : i ≤ 8) : (nums2 a b i).length = 16 := by
  simp [nums2]
  omega
theorem nums2_step (a b : Int) (i : Nat) (h : i < 8) : ((nums2 a b i).set i (u8 (a / 2 ^ (56 - 8 * i)))).set (8 + i) (u8 (b / 2 ^ (56 - 8 * i))) = nums2 a b (i + 1) := by
  have g := fun n : Int => fill_zeros (be8 n) 8 i (by simpa using h) (by simp)
  have e : ∀ n : Int, (be8 n)[i]'(by simpa using h) = u8 (n / 2 ^ (56 - 8 * i)) := fun n => by
    have := be8_get n i h
    rw [List.getElem?_eq_getElem (by simpa using h)] at this
    exact Option.some.inj this
  have ga := g a
  have gb := g b
  rw [e a] at ga
  rw [e b] at gb
  have hl : ∀ n : Int, ((be8 n).take i ++ zeros (8 - i)).length = 8 := fun n => by simp; omega
  have hl2 : ∀ n : Int, ((be8 n).take (i + 1) ++ zeros (8 - (i + 1))).length = 8 := fun n => by simp; omega
  unfold nums2
  rw [List.set_append_left _ _ (by rw [hl]; exact h), ga, List.set_append_right _ _ (by rw [hl2]; omega), hl2, show 8 + i - 8 = i by omega, gb]
theorem nums2_all (a b : Int) : nums2 a b 8 = be8 a ++ be8 b := by
  unfold nums2
  rw [List.take_of_length_le (l := be8 a) (by simp), List.take_of_length_le (l := be8 b) (by simp)]
  simp [zeros]
theorem nums2_zero (a b : Int) : nums2 a b 0 = zeros 16 := by simp [nums2, zeros]

end Go.Proofs.Ytglkfbhjimnboaa.WL

end
section
/-
  CHAPTER 04: contracts of the program: signing, checking.
-/
namespace Go.Proofs.Ytglkfbhjimnboaa.WL
open Go
set_option maxHeartbeats 4000000
attribute [local irreducible] comp hb sha leafD pairD secD shutD wholeD pubD ofD

theorem and_one (n : Nat) (h : n < 4294967296) : bitsOp .and .i64 (n : Int) 1 = ((n % 2 : Nat) : Int) := by
  simp only [bitsOp, BitVec.toNat_and, BitVec.toNat_ofInt]
  have e1 : ((n : Int) % ((2 ^ IntKind.i64.bits : Nat) : Int)).toNat = n := by
    rw [← Int.natCast_emod, Int.toNat_natCast, Nat.mod_eq_of_lt (by simp only [IntKind.bits]; omega)]
  have e2 : ((1 : Int) % ((2 ^ IntKind.i64.bits : Nat) : Int)).toNat = 1 := by decide
  rw [e1, e2, Nat.and_one_is_mod, IntKind.wrap_i64]
  omega
theorem tdivN (j k : Nat) : Int.tdiv (j : Int) (k : Int) = ((j / k : Nat) : Int) := by
  rw [Int.tdiv_eq_ediv_of_nonneg (by omega)]
  exact (Int.natCast_ediv j k).symm
theorem tmodN (j k : Nat) : Int.tmod (j : Int) (k : Int) = ((j % k : Nat) : Int) := by
  rw [Int.tmod_eq_emod_of_nonneg (by omega)]
  exact (Int.natCast_emod j k).symm

/-- What Sign has under way. -/
abbrev SgA := List Dg × List Dg

/-- Whether a signature is right. -/
def checkO (p d : Dg) (o s : List Dg) : Bool := decide (o.length = 32 ∧ s.length = 32) && decide (ofD d o s 32 = p)
end Go.Proofs.Ytglkfbhjimnboaa.WL

end
section
/-
  CHAPTER 03: contracts of the program.
-/
namespace Go.Proofs.Ytglkfbhjimnboaa.WL
open Go
set_option maxHeartbeats 4000000
attribute [local irreducible] comp hb sha leafD pairD

end Go.Proofs.Ytglkfbhjimnboaa.WL

end
section
/-
  CHAPTER 03: contracts of the program: paths.
-/
namespace Go.Proofs.Ytglkfbhjimnboaa.WL
open Go
set_option maxHeartbeats 4000000
attribute [local irreducible] comp hb sha leafD pairD

end Go.Proofs.Ytglkfbhjimnboaa.WL

end
section
/-
  CHAPTER 05: contracts of the program: trees.
-/
namespace Go.Proofs.Ytglkfbhjimnboaa.WL
open Go
set_option maxHeartbeats 4000000
attribute [local irreducible] comp hb sha leafD pairD secD shutD wholeD pubD ofD

/-- A tree in memory. -/
def trM (g : Nat) (seed : Dg) (h : Int) (ls : List Dg) : List (Nat × Loc) := [(1000, .var 0 (.node [dv seed, .v (.int .i64 h), .row 2000 32 g 0 ls.length])), (2000, .rows g 32 (Dgs ls))]
def trM1 (seed : Dg) (h : Int) (ls : List Dg) : List (Nat × Loc) := [(1000, .var 1 (.node [dv seed, .v (.int .i64 h), .row 2000 32 1 0 ls.length])), (2000, .rows 1 32 (Dgs ls))]

end Go.Proofs.Ytglkfbhjimnboaa.WL

end
section
/-
  CHAPTER 03: contracts of the reference.
-/
namespace Go.Proofs.Ytglkfbhjimnboaa.WL
open Go
set_option maxHeartbeats 4000000
attribute [local irreducible] comp hb sha leafD pairD

theorem Dgs_cons (d : Dg) (ds : List Dg) : dv d :: Dgs ds = Dgs (d :: ds) := (rfl)
theorem tmod2 (j : Nat) : Int.tmod (j : Int) 2 = ((j % 2 : Nat) : Int) := by
  rw [Int.tmod_eq_emod_of_nonneg (by omega)]
  omega
theorem tdiv2 (j : Nat) : Int.tdiv (j : Int) 2 = ((j / 2 : Nat) : Int) := by
  rw [Int.tdiv_eq_ediv_of_nonneg (by omega)]
  omega

theorem same_take {α : Type} [DecidableEq α] {a b : List α} {j : Nat} (ha : j < a.length) (hb : j < b.length) (h : a.take j = b.take j) (hj : a[j] = b[j]) : a.take (j + 1) = b.take (j + 1) := by
  rw [take_snoc _ _ ha, take_snoc _ _ hb, h, hj]

theorem rsame_meets {G : Nat → Option AV} (a b : List Dg) (ha : a.length ≤ 1000000000) : Meets Try.prog G fn_r03_Same [.sl 32 (Dgs a), .sl 32 (Dgs b)] [] true (.v (.bool (decide (a = b)))) [] := by
  refine meets_of_go mix k_r03_Same ⟨by simp, by simp, by simp⟩ ?_
  by_cases hl : a.length = b.length
  · simp [hl]
    refine go_up a.length (fun j (_ : Unit) => a.take j = b.take j) (fun j (_ : Unit) c => ⟨[(0, .sl 32 (Dgs a)), (1, .sl 32 (Dgs b)), (12, .v (.int .i64 (b.length : Nat))), (13, .v (.int .i64 (j : Nat)))], [], c⟩) () _ (Weak.refl _) (by simp) ?_ ?_
    · intro j _ c hj hx
      have hw : IntKind.i64.wrap ((j : Int) + 1) = ((j + 1 : Nat) : Int) := w64_succ (by omega)
      have hj2 : j < b.length := by omega
      by_cases he : a[j] = b[j]
      · simp [hj, hj2, he, hw]
        exact ⟨(), _, Weak.refl _, same_take hj hj2 hx he⟩
      · have hne : ¬ a = b := by intro e; subst e; exact he rfl
        simp [hj, hj2, he, hw]
        refine post_end (.inr rfl) ?_
        simp [hne]
    · intro _ c hx
      have he : a = b := by rw [List.take_length, hl, List.take_length] at hx; exact hx
      simp [hl]
      refine post_end (.inr rfl) ?_
      simp [he]
  · have hne : ¬ a = b := by intro e; subst e; exact hl rfl
    have c1 : ¬ (a.length : Int) = (b.length : Nat) := by omega
    simp [hl, c1]
    refine post_end (.inr rfl) ?_
    simp [hne]
end Go.Proofs.Ytglkfbhjimnboaa.WL

end
section
/-
  CHAPTER 04: contracts of the reference.
-/
namespace Go.Proofs.Ytglkfbhjimnboaa.WL
open Go
set_option maxHeartbeats 4000000
attribute [local irreducible] comp hb sha leafD pairD secD shutD wholeD pubD ofD

theorem pubL_get (seed : Dg) (leaf : Int) : ∀ (N i : Nat), i < 2 * N → (pubL seed leaf N)[i]? = some (shutD (secD seed leaf (i / 2) (i % 2)))
  | 0, i, h => by omega
  | N + 1, i, h => by
    simp only [pubL]
    by_cases h1 : i < 2 * N
    · rw [List.getElem?_append_left (by rw [pubL_length]; exact h1)]
      exact pubL_get seed leaf N i h1
    · rw [List.getElem?_append_right (by rw [pubL_length]; omega), pubL_length]
      rcases (show i = 2 * N ∨ i = 2 * N + 1 by omega) with rfl | rfl
      · rw [show 2 * N - 2 * N = 0 by omega, show 2 * N / 2 = N by omega, show 2 * N % 2 = 0 by omega]
        rfl
      · rw [show 2 * N + 1 - 2 * N = 1 by omega, show (2 * N + 1) / 2 = N by omega, show (2 * N + 1) % 2 = 1 by omega]
        rfl

theorem rsame4_meets {G : Nat → Option AV} (a b c d : List Dg) (ha : a.length ≤ 1000000000) (hb : b.length ≤ 1000000000) :
    Meets Try.prog G fn_r04_Same [.node [.sl 32 (Dgs a), .sl 32 (Dgs b)], .node [.sl 32 (Dgs c), .sl 32 (Dgs d)]] [] true (.v (.bool (decide (a = c) && decide (b = d)))) [] := by
  refine meets_of_go mix k_r04_Same ⟨by simp, by simp, by simp⟩ ?_
  simp
  refine call_intro (rsame_meets a c ha) ?_ ?_
  · simp
  by_cases h : a = c
  · simp [h]
    refine call_intro (rsame_meets b d hb) ?_ ?_
    · simp
    simp
    refine post_end (.inr rfl) ?_
    simp
  · simp [h]
    refine post_end (.inr rfl) ?_
    simp
end Go.Proofs.Ytglkfbhjimnboaa.WL

end
section
/-
  CHAPTER 05: contracts of the reference.
-/
namespace Go.Proofs.Ytglkfbhjimnboaa.WL
open Go
set_option maxHeartbeats 4000000
attribute [local irreducible] comp hb sha leafD pairD secD shutD wholeD pubD ofD

theorem flatD_app (a b : List Dg) : flatD (a ++ b) = flatD a ++ flatD b := by simp [flatD]
def Sig.same (a b : Sig) : Bool := decide (a.leaf = b.leaf) && (decide (a.op = b.op) && decide (a.sh = b.sh)) && decide (a.path = b.path)
theorem rksame_meets {G : Nat → Option AV} (a b : Sig) (h1 : a.op.length ≤ 1000000000) (h2 : a.sh.length ≤ 1000000000) (h3 : a.path.length ≤ 1000000000) : Meets Try.prog G fn_r05_Same [a.avS, b.avS] [] true (.v (.bool (a.same b))) [] := by
  refine meets_of_go mix k_r05_Same ⟨by simp, by simp, by simp⟩ ?_
  have m1 := rsame4_meets (G := G) a.op a.sh b.op b.sh h1 h2
  have m2 := rsame_meets (G := G) a.path b.path h3
  unfold Sig.same
  by_cases c1 : a.leaf = b.leaf
  · simp [Sig.avS, c1]
    refine call_intro m1 ?_ ?_
    · simp
    by_cases c2 : a.op = b.op ∧ a.sh = b.sh
    · simp [c2]
      refine call_intro m2 ?_ ?_
      · simp
      simp
      refine post_end (.inr rfl) ?_
      simp
    · have c3 : (decide (a.op = b.op) && decide (a.sh = b.sh)) = false := by
        rw [Bool.and_eq_false_iff, decide_eq_false_iff_not, decide_eq_false_iff_not]
        by_cases e : a.op = b.op
        · exact .inr fun h => c2 ⟨e, h⟩
        · exact .inl e
      simp only [c3]
      simp
      refine post_end (.inr rfl) ?_
      simp
  · simp [Sig.avS, c1]
    refine post_end (.inr rfl) ?_
    simp
end Go.Proofs.Ytglkfbhjimnboaa.WL

end
section
/-
  CHAPTER 13, 14, 15, 08: contracts of the reference: things are the same as themselves.
-/
namespace Go.Proofs.Ytglkfbhjimnboaa.WL
open Go
set_option maxHeartbeats 4000000
variable {G : Nat → Option AV}
attribute [local irreducible] sha
attribute [local irreducible] Rd.sig Rd.sig' Rd.blk Rd.blk' Rd.inn Rd.inn' Rd.dg Rd.dg' Rd.rep Rd.rep' repR

def Sig.small (s : Sig) : Prop := s.op.length ≤ 1000 ∧ s.sh.length ≤ 1000 ∧ s.path.length ≤ 1000
theorem ksame_refl (s : Sig) (h : s.small) : Meets Try.prog G fn_r05_Same [s.avS, s.avS] [] true (.v (.bool true)) [] := by
  obtain ⟨h1, h2, h3⟩ := h
  have := rksame_meets (G := G) s s (by omega) (by omega) (by omega)
  have e : s.same s = true := by simp [Sig.same]
  rwa [e] at this
theorem bsame_refl (b : Blk) (h : b.qs.length ≤ 1000) : Meets Try.prog G fn_r12_Same [b.avS, b.avS] [] true (.v (.bool true)) [] := by
  have := rbsame_meets (G := G) b b (by omega)
  rwa [(Blk.same_iff b b).2 rfl] at this
theorem qsame_refl (a : Rep) (h : a.vals.length ≤ 1000) : Meets Try.prog G fn_r09_Same [a.avS, a.avS] [] true (.v (.bool true)) [] := by
  have := rqsame_meets (G := G) a a (by omega)
  have e : a.same a = true := by simp [Rep.same]
  rwa [e] at this
theorem vsame_refl (v : Vote) (h : v.sig.small) : Meets Try.prog G fn_r13_Same [v.av, v.av] [] true (.v (.bool true)) [] := by
  refine meets_of_go mix k_r13_Same ⟨by simp, by simp, by simp⟩ ?_
  have m1 := ksame_refl (G := G) v.sig h
  simp [Vote.av, dv]
  refine call_intro m1 ?_ ?_
  · simp
  simp
  refine post_end (.inr rfl) ?_
  simp
theorem psame_refl (p : Plan) (h : p.sig.small) (hq : p.blk.qs.length ≤ 1000) : Meets Try.prog G fn_r13_SamePlan [p.av, p.av] [] true (.v (.bool true)) [] := by
  refine meets_of_go mix k_r13_SamePlan ⟨by simp, by simp, by simp⟩ ?_
  have m1 := ksame_refl (G := G) p.sig h
  have m2 := bsame_refl (G := G) p.blk hq
  simp [Plan.av]
  refine call_intro m2 ?_ ?_
  · simp
  simp
  refine call_intro m1 ?_ ?_
  · simp
  simp
  refine post_end (.inr rfl) ?_
  simp
def Cert.small (x : Cert) : Prop := x.votes.length ≤ 1000 ∧ ∀ v ∈ x.votes, v.sig.small
theorem tsame_refl (x : Cert) (h : x.small) : Meets Try.prog G fn_r14_Same [x.av, x.av] [] true (.v (.bool true)) [] := by
  refine meets_of_go mix k_r14_Same ⟨by simp, by simp, by simp⟩ ?_
  obtain ⟨h1, h2⟩ := h
  generalize hvs : x.votes = vs at *
  simp [Cert.av, hvs]
  refine go_up vs.length (fun j (_ : Unit) => True) (fun j _ c => ⟨[(2, .ptr 2 c 0), (3, .ptr 3 c 0), (22, .v (.int .i64 (vs.length : Nat))), (23, .v (.int .i64 (j : Nat)))], [(2, .var c (.node [.v (.int .i64 x.round), .sl 41 (Votes vs)])), (3, .var c (.node [.v (.int .i64 x.round), .sl 41 (Votes vs)]))], c + 1⟩) () _ (Weak.re (by simp)) trivial ?_ ?_
  · intro j _ c hj _
    have hw : IntKind.i64.wrap ((j : Int) + 1) = ((j + 1 : Nat) : Int) := w64_succ (by omega)
    have m1 := vsame_refl (G := G) vs[j] (h2 _ (List.getElem_mem hj))
    simp [hj]
    refine call_intro m1 ?_ ?_
    · simp
    simp
    simp [hw]
    exact ⟨(), _, Weak.re (by simp), trivial⟩
  · intro _ c _
    simp
    refine post_end (.inr rfl) ?_
    simp
theorem cmp_mem (m : Mem) : cmpA (.st [.int .i64, .st [.ints .u8 32, .int .i64]]) m.av m.av = some true := by
  have h1 := fun x y : Int => cmp_int .i64 x y
  unfold Mem.av cmpA
  simp only [cmpL, h1, Option.bind_some, Option.map_some]
  unfold cmpA
  simp only [cmpL, h1, cmp_dg, Option.bind_some, Option.map_some]
  simp
theorem csame_refl (x : Conf) (h : x.ms.length ≤ 1000) : Meets Try.prog G fn_r08_Same [x.av, x.av] [] true (.v (.bool true)) [] := by
  refine meets_of_go mix k_r08_Same ⟨by simp, by simp, by simp⟩ ?_
  generalize hms : x.ms = ms at *
  simp [Conf.av, hms]
  refine go_up ms.length (fun j (_ : Unit) => True) (fun j _ c => ⟨[(2, .ptr 2 c 0), (3, .ptr 3 c 0), (22, .v (.int .i64 (ms.length : Nat))), (23, .v (.int .i64 (j : Nat)))], [(2, .var c (.node [.v (.int .i64 x.epoch), .sl 34 (Mems ms)])), (3, .var c (.node [.v (.int .i64 x.epoch), .sl 34 (Mems ms)]))], c + 1⟩) () _ (Weak.re (by simp)) trivial ?_ ?_
  · intro j _ c hj _
    have hw : IntKind.i64.wrap ((j : Int) + 1) = ((j + 1 : Nat) : Int) := w64_succ (by omega)
    have hc := cmp_mem ms[j]
    simp [hj, hc, hw]
    exact ⟨(), _, Weak.re (by simp), trivial⟩
  · intro _ c _
    simp
    refine post_end (.inr rfl) ?_
    simp
def Lnk.small (l : Lnk) : Prop := l.blk.qs.length ≤ 1000 ∧ l.cert.small ∧ l.conf.ms.length ≤ 1000
theorem lsame_refl (l : Lnk) (h : l.small) : Meets Try.prog G fn_r15_Same [l.av, l.av] [] true (.v (.bool true)) [] := by
  refine meets_of_go mix k_r15_Same ⟨by simp, by simp, by simp⟩ ?_
  obtain ⟨h1, h2, h3⟩ := h
  have m1 := bsame_refl (G := G) l.blk h1
  have m2 := tsame_refl (G := G) l.cert h2
  have m3 := csame_refl (G := G) l.conf h3
  simp [Lnk.av]
  refine call_intro m1 ?_ ?_
  · simp
  simp
  refine call_intro m2 ?_ ?_
  · simp
  simp
  refine call_intro m3 ?_ ?_
  · simp
  simp
  refine post_end (.inr rfl) ?_
  simp

/-! What is read is small. -/
theorem sig_small (r : Rd) : r.sig.small := by
  unfold Rd.sig Sig.small
  split
  · simp [Sig.zero]
  · have := r.sN_eq
    simp [Rd.sig0]
    omega
theorem vote_small (r : Rd) : (voteF.rd r).sig.small := by
  rw [voteF_rd]
  split
  · simp [Vote.zero, Sig.zero, Sig.small]
  · exact sig_small _
theorem blk_small (r : Rd) : r.blk.qs.length ≤ 1000 := by
  have := r.blkN_eq
  unfold Rd.blk
  split
  · simp [Blk.zero]
  · simp [Rd.blk0]; omega
theorem plan_small (r : Rd) : (planF.rd r).sig.small ∧ (planF.rd r).blk.qs.length ≤ 1000 := by
  rw [planF_rd]
  split
  · simp [Plan.zero, Sig.zero, Sig.small, Blk.zero]
  · exact ⟨sig_small _, blk_small _⟩
theorem repR_all {α : Type} {F : Fmt α} {p : α → Prop} (h : ∀ r, p (F.rd r)) (r : Rd) : ∀ n, ∀ a ∈ (repR (fun _ => F) r n).1, p a
  | 0 => by simp [repR]
  | n + 1 => by
    simp only [repR, List.mem_append, List.mem_singleton]
    rintro a (ha | rfl)
    · exact repR_all h r n a ha
    · exact h _
theorem cert_small (r : Rd) : (certF.rd r).small := by
  rw [certF_rd]
  split
  · simp [Cert.zero, Cert.small]
  · have := count10 (r.inn' 0 1024)
    refine ⟨?_, repR_all (F := voteF) (p := fun v => v.sig.small) vote_small _ _⟩
    show (repR (fun _ => voteF) ((r.inn' 0 1024).inn' 1 10) r.certN).1.length ≤ 1000
    rw [repR_length]
    unfold Rd.certN
    omega
theorem conf_small (r : Rd) : (confF.rd r).ms.length ≤ 1000 := by
  rw [confF_rd]
  split
  · simp [Conf.zero]
  · have := count10 (r.inn' 0 1073741824)
    show (repR memF ((r.inn' 0 1073741824).inn' 1 10) r.confN).1.length ≤ 1000
    rw [repR_length]
    unfold Rd.confN
    omega
theorem link_small (r : Rd) : (linkF.rd r).small := by
  rw [linkF_rd]
  split
  · exact ⟨by simp [Lnk.zero, Blk.zero], by simp [Lnk.zero, Cert.zero, Cert.small], by simp [Lnk.zero, Conf.zero]⟩
  · exact ⟨blk_small _, cert_small _, conf_small _⟩
theorem rep_small (r : Rd) : r.rep.vals.length ≤ 1000 := by
  have := r.repN_eq
  unfold Rd.rep
  split
  · simp [Rep.zero]
  · simp [Rd.rep0]; omega
end Go.Proofs.Ytglkfbhjimnboaa.WL

end
section
/-
  CHAPTER 20: contracts of pieces, and of what a mail is written as.
-/
namespace Go.Proofs.Ytglkfbhjimnboaa.WL
open Go
set_option maxHeartbeats 4000000
variable {G : Nat → Option AV}
attribute [local irreducible] sha
attribute [local irreducible] Rd.sig Rd.sig' Rd.blk Rd.blk' Rd.inn Rd.inn' Rd.dg Rd.dg' Rd.rep Rd.rep' Rd.text Rd.text' Rd.req Rd.req' repR

theorem pcN_eq (r : Rd) : ((r.pcN : Nat) : Int) = ((r.inn' 0 1024).inn' 0 1024).inn 0 16 ∧ r.pcN ≤ 16 := by
  have := ((r.inn' 0 1024).inn' 0 1024).inn_range 0 16 (by omega)
  unfold Rd.pcN
  omega
theorem piece_meets (r : Rd) : Meets Try.prog G fn_mail_piece [.ptr 1000 0 0] (rdM 0 r) false (pieceF.rd r).av (rdM 1 (pieceF.rd' r)) := by
  refine meets_of_go mix k_mail_piece ⟨by simp [rdM], by simp [rdM], by simp [rdM]⟩ ?_
  rw [pieceF_rd, pieceF_rd']
  obtain ⟨hN, hN2⟩ := pcN_eq r
  generalize r.pcN = N at *
  have m1 := in_meets (G := G) r 0 1024
  generalize r.inn 0 1024 = a1 at *
  generalize r.inn' 0 1024 = r1 at *
  have m2 := in_meets (G := G) r1 0 1024
  generalize r1.inn 0 1024 = a2 at *
  generalize r1.inn' 0 1024 = r2 at *
  have m3 := in_meets (G := G) r2 0 16
  rw [← hN] at m3
  clear hN
  generalize r2.inn' 0 16 = r3 at *
  have m4 := digest_meets (G := G) r3
  generalize r3.dg = a4 at *
  generalize r3.dg' = r4 at *
  have m6 := text_meets (G := G) (r4.ds' N) 1024
  generalize ht : (r4.ds' N).text 1024 = a6 at *
  generalize ht' : (r4.ds' N).text' 1024 = r6 at *
  simp [rdM]
  refine call_intro m1 ?_ ?_
  · simp [rdM]
  simp [rdM]
  refine call_intro m2 ?_ ?_
  · simp [rdM]
  simp [rdM]
  refine call_intro m3 ?_ ?_
  · simp [rdM]
  simp [rdM]
  refine call_intro m4 ?_ ?_
  · simp [rdM]
  simp [rdM, dv]
  obtain ⟨L, hL⟩ : ∃ L : Nat → List Dg, ∀ i, L i = r4.ds i := ⟨_, fun _ => rfl⟩
  obtain ⟨R, hR⟩ : ∃ R : Nat → Rd, ∀ i, R i = r4.ds' i := ⟨_, fun _ => rfl⟩
  have hL0 : L 0 = [] := by rw [hL]; rfl
  have hR0 : r4 = R 0 := by rw [hR]; rfl
  have hLl : ∀ i, (L i).length = i := fun i => by rw [hL]; exact r4.ds_length i
  have hLs : ∀ i, L (i + 1) = L i ++ [(R i).dg] := fun i => by rw [hL, hL, hR]; rfl
  have hRs : ∀ i, R (i + 1) = (R i).dg' := fun i => by rw [hR, hR]; rfl
  rw [← hL]
  rw [← hR] at m6
  clear hL hR
  rw [hR0]
  refine go_up N (fun j (_ : Unit) => True) (fun j _ c => ⟨[(0, .ptr 1000 0 0), (2, .ptr 2 c 0), (3, .ptr 3 c 0), (15, .v (.int .i64 (N : Nat))), (16, .v (.int .i64 (j : Nat)))],
    [(2, .var c (.node [.v (.int .i64 0), .v (.int .i64 0), dv Dg.zero, .v (.string (mkS [])), .v (.slice none 0 0)])), (3, .var c (.node [.v (.int .i64 a1), .v (.int .i64 a2), dv a4, .v (.string (mkS [])), .row 23 32 c 0 j])), (23, .rows c 32 (Dgs (L j))),
     (1000, .var 0 (.node [.row 2000 1 c (R j).pre.length (R j).s.length, .v (.bool (R j).bad)])), (2000, .rows c 1 (B ((R j).pre ++ (R j).s)))], c + 1⟩) () _ (Weak.re0 1000 (by simp [hL0, dv])) trivial ?_ ?_
  · intro j _ c hj _
    have hw : IntKind.i64.wrap ((j : Int) + 1) = ((j + 1 : Nat) : Int) := w64_succ (by omega)
    have f1 : fitsB (j + 1) 32 := fits (by omega) (by omega)
    have e1 := hLs j
    have e2 := hRs j
    have hlj := hLl j
    generalize R j = q at *
    have m5 := digest_meets (G := G) q
    generalize q.dg = b at *
    generalize q.dg' = q1 at *
    generalize L j = x at *
    have hS := Dgs_snoc x b
    simp only [dv] at hS
    simp [hj, dv]
    refine call_intro m5 ?_ ?_
    · simp [rdM]
    simp [rdM, f1, hlj, hS, dv]
    simp [hw]
    exact ⟨(), _, Weak.re0 1000 (by simp [e1, e2, dv]), trivial⟩
  · intro _ c _
    have hlN := hLl N
    generalize R N = q at *
    generalize L N = x at *
    have htx : List.take N x = x := List.take_of_length_le (by omega)
    simp [dv]
    refine call_intro m6 ?_ ?_
    · simp [rdM]
    simp [rdM, dv]
    refine post_end (.inr rfl) ?_
    simp [Piece.av, hlN, htx, dv]
theorem rpiece_meets (r : Rd) : Meets Try.prog G fn_r20_piece [.ptr 1000 0 0] (rfM r) false (pieceF.rd r).av (rfM (pieceF.rd' r)) := by
  refine meets_of_go mix k_r20_piece ⟨by simp [rfM], by simp [rfM], by simp [rfM]⟩ ?_
  rw [pieceF_rd, pieceF_rd']
  obtain ⟨hN, hN2⟩ := pcN_eq r
  generalize r.pcN = N at *
  have m1 := rin_meets (G := G) r 0 1024
  generalize r.inn 0 1024 = a1 at *
  generalize r.inn' 0 1024 = r1 at *
  have m2 := rin_meets (G := G) r1 0 1024
  generalize r1.inn 0 1024 = a2 at *
  generalize r1.inn' 0 1024 = r2 at *
  have m3 := rin_meets (G := G) r2 0 16
  rw [← hN] at m3
  clear hN
  generalize r2.inn' 0 16 = r3 at *
  have m4 := rdigest_meets (G := G) r3
  generalize r3.dg = a4 at *
  generalize r3.dg' = r4 at *
  have m6 := rtext_meets (G := G) (r4.ds' N) 1024
  generalize ht : (r4.ds' N).text 1024 = a6 at *
  generalize ht' : (r4.ds' N).text' 1024 = r6 at *
  simp [rfM]
  refine call_intro m1 ?_ ?_
  · simp [rfM]
  simp [rfM]
  refine call_intro m2 ?_ ?_
  · simp [rfM]
  simp [rfM]
  refine call_intro m3 ?_ ?_
  · simp [rfM]
  simp [rfM]
  refine call_intro m4 ?_ ?_
  · simp [rfM]
  simp [rfM, dv]
  obtain ⟨L, hL⟩ : ∃ L : Nat → List Dg, ∀ i, L i = r4.ds i := ⟨_, fun _ => rfl⟩
  obtain ⟨R, hR⟩ : ∃ R : Nat → Rd, ∀ i, R i = r4.ds' i := ⟨_, fun _ => rfl⟩
  have hL0 : L 0 = [] := by rw [hL]; rfl
  have hR0 : r4 = R 0 := by rw [hR]; rfl
  have hLl : ∀ i, (L i).length = i := fun i => by rw [hL]; exact r4.ds_length i
  have hLs : ∀ i, L (i + 1) = L i ++ [(R i).dg] := fun i => by rw [hL, hL, hR]; rfl
  have hRs : ∀ i, R (i + 1) = (R i).dg' := fun i => by rw [hR, hR]; rfl
  rw [← hL]
  rw [← hR] at m6
  clear hL hR
  rw [hR0]
  refine go_up N (fun j (_ : Unit) => True) (fun j _ c => ⟨[(0, .ptr 1000 0 0), (2, .ptr 2 c 0), (3, .ptr 3 c 0), (4, .v (.int .i64 (N : Nat))), (5, .v (.int .i64 (j : Nat)))],
    [(2, .var c (.node [.v (.int .i64 0), .v (.int .i64 0), dv Dg.zero, .v (.string (mkS [])), .v (.slice none 0 0)])), (3, .var c (.node [.v (.int .i64 a1), .v (.int .i64 a2), dv a4, .v (.string (mkS [])), .row 27 32 c 0 j])), (27, .rows c 32 (Dgs (L j))),
     (1000, .var 0 (.node [.v (.string (mkS (R j).s)), .v (.bool (R j).bad)]))], c + 1⟩) () _ (Weak.re0 1000 (by simp [hL0, dv])) trivial ?_ ?_
  · intro j _ c hj _
    have hw : IntKind.i64.wrap ((j : Int) + 1) = ((j + 1 : Nat) : Int) := w64_succ (by omega)
    have f1 : fitsB (j + 1) 32 := fits (by omega) (by omega)
    have e1 := hLs j
    have e2 := hRs j
    have hlj := hLl j
    generalize R j = q at *
    have m5 := rdigest_meets (G := G) q
    generalize q.dg = b at *
    generalize q.dg' = q1 at *
    generalize L j = x at *
    have hS := Dgs_snoc x b
    simp only [dv] at hS
    simp [hj, dv]
    refine call_intro m5 ?_ ?_
    · simp [rfM]
    simp [rfM, f1, hlj, hS, dv]
    simp [hw]
    exact ⟨(), _, Weak.re0 1000 (by simp [e1, e2, dv]), trivial⟩
  · intro _ c _
    have hlN := hLl N
    generalize R N = q at *
    generalize L N = x at *
    have htx : List.take N x = x := List.take_of_length_le (by omega)
    simp [dv]
    refine call_intro m6 ?_ ?_
    · simp [rfM]
    simp [rfM, dv]
    refine post_end (.inr rfl) ?_
    simp [Piece.av, hlN, htx, dv]
end Go.Proofs.Ytglkfbhjimnboaa.WL

end
