/-
  CHAPTER 05: contracts of the program: writing and reading.
-/
import Derived.Test.YtmdjimkndeklmaaDoorM05
import Derived.Test.YtmdjimkndeklmaaDoorS01b
import Derived.Test.YtmdjimkndeklmaaDoorS01c
import Derived.Test.YtmdjimkndeklmaaDoorS01e
namespace Go.Proofs.YtmdjimkndeklmaaDoor.WL
open Go
set_option maxHeartbeats 4000000
variable {G : Nat → Option AV}

theorem I64_2 (a b : Int) : [AV.v (.int .i64 a), .v (.int .i64 b)] = I64 [a, b] := (rfl)
theorem kwrite_bad (bs : Bytes) (s : Sig) (h : s.ok = false) : Meets Tryd.prog G fn_keys_Write [.ptr 1000 0 0, s.avS] (wrM 0 bs) true (.v (.bool false)) (wrM 1 bs) := by
  refine meets_of_go mix k_keys_Write ⟨by simp [wrM], by simp, by simp [wrM]⟩ ?_
  simp only [Sig.ok, decide_eq_false_iff_not] at h
  by_cases h1 : s.op.length = 32
  · by_cases h2 : s.sh.length = 32
    · have h3 : 6 < s.path.length := by omega
      have h3i : (6 : Int) < (s.path.length : Nat) := by omega
      simp [Sig.avS, wrM, h1, h2, h3, h3i]
      refine post_end (.inr rfl) ?_
      simp
    · have h2i : ¬ (s.sh.length : Int) = 32 := by omega
      simp [Sig.avS, wrM, h1, h2, h2i]
      refine post_end (.inr rfl) ?_
      simp
  · have h1i : ¬ (s.op.length : Int) = 32 := by omega
    simp [Sig.avS, wrM, h1, h1i]
    refine post_end (.inr rfl) ?_
    simp

theorem kwrite_meets (bs : Bytes) (s : Sig) (h : s.ok = true) (hb : bs.length ≤ 50000000) : Meets Tryd.prog G fn_keys_Write [.ptr 1000 0 0, s.avS] (wrM 0 bs) true (.v (.bool true)) (wrM 1 (bs ++ s.bytes)) := by
  refine meets_of_go mix k_keys_Write ⟨by simp [wrM], by simp, by simp [wrM]⟩ ?_
  simp only [Sig.ok, decide_eq_true_eq] at h
  obtain ⟨h1, h2, h3⟩ := h
  have h1i : (s.op.length : Int) = 32 := by omega
  have h2i : (s.sh.length : Int) = 32 := by omega
  have h3i : ¬ (6 : Int) < (s.path.length : Nat) := by omega
  have h3n : ¬ 6 < s.path.length := by omega
  have hbts : s.bytes = nums [s.leaf, (s.path.length : Int)] ++ (flatD s.op ++ (flatD s.sh ++ flatD s.path)) := rfl
  rw [hbts]
  have n1 := nums_length [s.leaf, (s.path.length : Int)]
  have n2 := flatD_length s.op
  have n3 := flatD_length s.sh
  simp only [List.length_cons, List.length_nil] at n1
  have m1 := wnum_meets (G := G) bs [s.leaf, (s.path.length : Int)] (by simp; omega)
  generalize nums [s.leaf, (s.path.length : Int)] = x1 at *
  have m2 := wdigest_meets (G := G) (bs ++ x1) s.op (by simp only [List.length_append]; omega)
  generalize flatD s.op = x2 at *
  have m3 := wdigest_meets (G := G) (bs ++ x1 ++ x2) s.sh (by simp only [List.length_append]; omega)
  generalize flatD s.sh = x3 at *
  have m4 := wdigest_meets (G := G) (bs ++ x1 ++ x2 ++ x3) s.path (by simp only [List.length_append]; omega)
  generalize flatD s.path = x4 at *
  have e : bs ++ (x1 ++ (x2 ++ (x3 ++ x4))) = bs ++ x1 ++ x2 ++ x3 ++ x4 := by simp
  rw [e]
  generalize bs ++ x1 ++ x2 ++ x3 ++ x4 = y4 at *
  generalize bs ++ x1 ++ x2 ++ x3 = y3 at *
  generalize bs ++ x1 ++ x2 = y2 at *
  generalize bs ++ x1 = y1 at *
  simp [Sig.avS, wrM, h1, h2, h3n, h3i]
  refine call_intro m1 ?_ ?_
  · simp [wrM, I64_2]
  simp [wrM, I64_2]
  refine call_intro m2 ?_ ?_
  · simp [wrM]
  simp [wrM]
  refine call_intro m3 ?_ ?_
  · simp [wrM]
  simp [wrM]
  refine call_intro m4 ?_ ?_
  · simp [wrM]
  simp [wrM]
  refine post_end (.inr rfl) ?_
  simp

/-- The memory of a reader and of a signature under way. -/
def kdM (c : Nat) (q : Rd) (leaf : Int) (o s p : List Dg) : List (Nat × Loc) :=
  [(2, .var c (.node [.v (.int .i64 0), .node [.v (.slice none 0 0), .v (.slice none 0 0)], .v (.slice none 0 0)])), (3, .var c (.node [.v (.int .i64 leaf), .node [.row 22 32 c 0 o.length, .row 34 32 c 0 s.length], .row 46 32 c 0 p.length])),
   (22, .rows c 32 (Dgs o)), (34, .rows c 32 (Dgs s)), (46, .rows c 32 (Dgs p)),
   (1000, .var 0 (.node [.row 2000 1 c q.pre.length q.s.length, .v (.bool q.bad)])), (2000, .rows c 1 (B (q.pre ++ q.s)))]

theorem kread_meets (r : Rd) : Meets Tryd.prog G fn_keys_Read [.ptr 1000 0 0] (rdM 0 r) true (Sig.avR 3000 4000 5000 1 r.sig) (rdM 1 r.sig' ++ Sig.rows 3000 4000 5000 1 r.sig) := by
  refine meets_of_go mix k_keys_Read ⟨by simp [rdM, Sig.rows], by simp [rdM, Sig.rows, Sig.avR], by simp [rdM, Sig.rows]⟩ ?_
  obtain ⟨hN, hN2⟩ := r.sN_eq
  have m1 := num_meets (G := G) r
  have m2 := in_meets (G := G) r.num' 0 6
  rw [← hN] at m2
  have m3 := good_meets (G := G) r.s2
  have hs2 : r.num'.inn' 0 6 = r.s2 := rfl
  rw [hs2] at m2
  cases hb : r.s2.bad
  · have hsig' : r.sig' = ((r.s2.ds' 32).ds' 32).ds' r.sN := rfl
    have hsig : r.sig = if (((r.s2.ds' 32).ds' 32).ds' r.sN).bad = true then Sig.zero else ⟨r.num, r.s2.ds 32, (r.s2.ds' 32).ds 32, ((r.s2.ds' 32).ds' 32).ds r.sN⟩ := rfl
    rw [hsig', hsig]
    generalize r.sN = N at *
    generalize r.num' = r1 at *
    generalize r.num = lf at *
    generalize r.s2 = r2 at *
    obtain ⟨M, hM⟩ : ∃ M, M = 32 := ⟨_, rfl⟩
    rw [← hM]
    simp [rdM]
    refine call_intro m1 ?_ ?_
    · simp [rdM]
    simp [rdM]
    refine call_intro m2 ?_ ?_
    · simp [rdM]
    simp [rdM]
    refine call_intro m3 ?_ ?_
    · simp [rdM]
    simp [rdM, hb]
    refine go_up M (fun j (_ : Unit) => True) (fun j _ c => ⟨[(0, .ptr 1000 0 0), (2, .ptr 2 c 0), (3, .ptr 3 c 0), (4, .v (.int .i64 (N : Nat))), (14, .v (.int .i64 (j : Nat)))], kdM c (r2.ds' j) lf (r2.ds j) [] [], c + 1⟩) () _ (Weak.re0 1000 (by simp [kdM, Rd.ds, Rd.ds', hb])) trivial ?_ ?_
    · intro j _ c hj _
      have hw : IntKind.i64.wrap ((j : Int) + 1) = ((j + 1 : Nat) : Int) := w64_succ (by omega)
      have f1 : fitsB (j + 1) 32 := fits (by omega) (by omega)
      have hj32 : (j : Int) < 32 := by omega
      have e1 : r2.ds (j + 1) = r2.ds j ++ [(r2.ds' j).dg] := rfl
      have e2 : r2.ds' (j + 1) = (r2.ds' j).dg' := rfl
      have hl := r2.ds_length j
      generalize r2.ds j = x at *
      generalize r2.ds' j = q at *
      have m5 := digest_meets (G := G) q
      generalize q.dg' = q' at *
      generalize q.dg = t at *
      simp [hj32, kdM]
      refine call_intro m5 ?_ ?_
      · simp [rdM]
      simp [rdM, f1, hl, hw, Dgs_snoc]
      exact ⟨(), _, Weak.re0 1000 (by simp [kdM, e1, e2, hl]), trivial⟩
    · intro _ c _
      have hM32 : ¬ (M : Int) < 32 := by omega
      generalize hq2 : r2.ds' M = r3 at *
      have hol := r2.ds_length M
      generalize r2.ds M = o at *
      simp [kdM, hM32]
      refine go_up M (fun j (_ : Unit) => True) (fun j _ c => ⟨[(0, .ptr 1000 0 0), (2, .ptr 2 c 0), (3, .ptr 3 c 0), (4, .v (.int .i64 (N : Nat))), (26, .v (.int .i64 (j : Nat)))], kdM c (r3.ds' j) lf o (r3.ds j) [], c + 1⟩) () _ (Weak.re0 1000 (by simp [kdM, Rd.ds, Rd.ds'])) trivial ?_ ?_
      · intro j _ c hj _
        have hw : IntKind.i64.wrap ((j : Int) + 1) = ((j + 1 : Nat) : Int) := w64_succ (by omega)
        have f1 : fitsB (j + 1) 32 := fits (by omega) (by omega)
        have hj32 : (j : Int) < 32 := by omega
        have e1 : r3.ds (j + 1) = r3.ds j ++ [(r3.ds' j).dg] := rfl
        have e2 : r3.ds' (j + 1) = (r3.ds' j).dg' := rfl
        have hl := r3.ds_length j
        generalize r3.ds j = x at *
        generalize r3.ds' j = q at *
        have m5 := digest_meets (G := G) q
        generalize q.dg' = q' at *
        generalize q.dg = t at *
        simp [hj32, kdM]
        refine call_intro m5 ?_ ?_
        · simp [rdM]
        simp [rdM, f1, hl, hw, Dgs_snoc]
        exact ⟨(), _, Weak.re0 1000 (by simp [kdM, e1, e2, hl]), trivial⟩
      · intro _ c _
        have hsl := r3.ds_length M
        generalize hq3 : r3.ds' M = r4 at *
        generalize r3.ds M = s at *
        simp [kdM, hM32]
        refine go_up N (fun j (_ : Unit) => True) (fun j _ c => ⟨[(0, .ptr 1000 0 0), (2, .ptr 2 c 0), (3, .ptr 3 c 0), (38, .v (.int .i64 (N : Nat))), (39, .v (.int .i64 (j : Nat)))], kdM c (r4.ds' j) lf o s (r4.ds j), c + 1⟩) () _ (Weak.re0 1000 (by simp [kdM, Rd.ds, Rd.ds'])) trivial ?_ ?_
        · intro j _ c hj _
          have hw : IntKind.i64.wrap ((j : Int) + 1) = ((j + 1 : Nat) : Int) := w64_succ (by omega)
          have f1 : fitsB (j + 1) 32 := fits (by omega) (by omega)
          have e1 : r4.ds (j + 1) = r4.ds j ++ [(r4.ds' j).dg] := rfl
          have e2 : r4.ds' (j + 1) = (r4.ds' j).dg' := rfl
          have hl := r4.ds_length j
          generalize r4.ds j = x at *
          generalize r4.ds' j = q at *
          have m5 := digest_meets (G := G) q
          generalize q.dg' = q' at *
          generalize q.dg = t at *
          simp [hj, kdM]
          refine call_intro m5 ?_ ?_
          · simp [rdM]
          simp [rdM, f1, hl, hw, Dgs_snoc]
          exact ⟨(), _, Weak.re0 1000 (by simp [kdM, e1, e2, hl]), trivial⟩
        · intro _ c _
          have hpl := r4.ds_length N
          generalize r4.ds' N = r5 at *
          generalize r4.ds N = p at *
          have m6 := good_meets (G := G) r5
          simp [kdM]
          refine call_intro m6 ?_ ?_
          · simp [rdM]
          cases hb5 : r5.bad
          · simp [rdM, hb5]
            refine post_end (.inr rfl) ?_
            simp [Sig.avR, Sig.rows, hb5]
          · simp [rdM, hb5]
            refine post_end (.inr rfl) ?_
            simp [Sig.avR, Sig.rows, Sig.zero, hb5]
  · obtain ⟨e1, e2⟩ := r.sig_fault hb
    have e3 : r.sig = Sig.zero := by unfold Rd.sig; rw [e2]; rfl
    rw [e2, e3]
    rw [e1] at m2 m3 hb
    generalize r.sN = N at *
    generalize r.num' = r1 at *
    generalize r.num = lf at *
    simp [rdM]
    refine call_intro m1 ?_ ?_
    · simp [rdM]
    simp [rdM]
    refine call_intro m2 ?_ ?_
    · simp [rdM]
    simp [rdM]
    refine call_intro m3 ?_ ?_
    · simp [rdM]
    simp [rdM, hb]
    refine post_end (.inr rfl) ?_
    simp [Sig.avR, Sig.rows, Sig.zero, hb]

theorem kread_nil : Meets Tryd.prog G fn_keys_Read [.v (.pointer none)] [] true (.node [.v (.int .i64 0), .node [.v (.slice none 0 0), .v (.slice none 0 0)], .v (.slice none 0 0)]) [] := by
  refine meets_of_go mix k_keys_Read ⟨by simp, by simp, by simp⟩ ?_
  simp
  refine call_intro num_nil ?_ ?_
  · simp
  simp
  refine call_intro (in_nil 0 6) ?_ ?_
  · simp
  simp
  refine call_intro good_nil ?_ ?_
  · simp
  simp
  refine post_end (.inr rfl) ?_
  simp
end Go.Proofs.YtmdjimkndeklmaaDoor.WL
