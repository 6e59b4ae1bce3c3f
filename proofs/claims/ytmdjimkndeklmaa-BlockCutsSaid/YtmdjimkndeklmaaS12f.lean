/-
  CHAPTER 12: contracts of the reference: reading.
-/
import Derived.Test.YtmdjimkndeklmaaS12e
namespace Go.Proofs.Ytmdjimkndeklmaa.WL
open Go
set_option maxHeartbeats 4000000
variable {G : Nat → Option AV}

theorem rbread_meets (r : Rd) : Meets Try.prog G fn_r12_Read [.ptr 1000 0 0] (rfM r) true (r.blk.avR 3000 1) (rfM r.blk' ++ [(3000, .rows 1 42 (Reqs r.blk.qs))]) := by
  refine meets_of_go mix k_r12_Read ⟨by simp [rfM], by simp [rfM, Blk.avR], by simp [rfM]⟩ ?_
  obtain ⟨hN, hN2⟩ := r.blkN_eq
  have hsane : ∀ n, (r.b6.rq' n).sane := r.b6.rq_sane (Rd.inn_sane _ _ _)
  have hblk : r.blk = if (r.b6.rq' r.blkN).bad = true then Blk.zero else ⟨r.inn 0 1073741824, r.b1.inn 1 1024, r.b2.dg, r.b3.dg, r.b4.dg, r.b6.rq r.blkN⟩ := rfl
  have hblk' : r.blk' = r.b6.rq' r.blkN := rfl
  rw [hblk, hblk']
  generalize r.blkN = N at *
  unfold Rd.b6 Rd.b5 Rd.b4 Rd.b3 Rd.b2 Rd.b1 at *
  have m1 := rin_meets (G := G) r 0 1073741824
  generalize r.inn' 0 1073741824 = r1 at *
  have m2 := rin_meets (G := G) r1 1 1024
  generalize r1.inn' 1 1024 = r2 at *
  have m3 := rdigest_meets (G := G) r2
  generalize r2.dg' = r3 at *
  have m4 := rdigest_meets (G := G) r3
  generalize r3.dg' = r4 at *
  have m5 := rdigest_meets (G := G) r4
  generalize r4.dg' = r5 at *
  have m6 := rin_meets (G := G) r5 0 8
  rw [← hN] at m6
  generalize r5.inn' 0 8 = r6 at *
  generalize r.inn 0 1073741824 = a1 at *
  generalize r1.inn 1 1024 = a2 at *
  generalize r2.dg = a3 at *
  generalize r3.dg = a4 at *
  generalize r4.dg = a5 at *
  simp [rfM]
  refine call_intro m1 ?_ ?_
  · simp [rfM]
  simp [rfM]
  refine call_intro m2 ?_ ?_
  · simp [rfM]
  simp [rfM]
  refine call_intro m3 ?_ ?_
  · simp [rfM]
  simp [rfM, dv]
  refine call_intro m4 ?_ ?_
  · simp [rfM]
  simp [rfM, dv]
  refine call_intro m5 ?_ ?_
  · simp [rfM]
  simp [rfM, dv]
  refine call_intro m6 ?_ ?_
  · simp [rfM]
  simp [rfM, dv]
  refine go_up N (fun j (_ : Unit) => True) (fun j _ c => ⟨[(0, .ptr 1000 0 0), (2, .ptr 2 c 0), (3, .ptr 3 c 0), (4, .v (.int .i64 (N : Nat))), (5, .v (.int .i64 (j : Nat)))],
    [(2, .var c (.node [.v (.int .i64 0), .v (.int .i64 0), dv Dg.zero, dv Dg.zero, dv Dg.zero, .v (.slice none 0 0)])), (3, .var c (.node [.v (.int .i64 a1), .v (.int .i64 a2), dv a3, dv a4, dv a5, .row 37 42 c 0 j])), (37, .rows c 42 (Reqs (r6.rq j))),
     (1000, .var 0 (.node [.v (.string (mkS (r6.rq' j).s)), .v (.bool (r6.rq' j).bad)]))], c + 1⟩) () _ (Weak.re0 1000 (by simp [Rd.rq, Rd.rq', dv])) trivial ?_ ?_
  · intro j _ c hj _
    have hw : IntKind.i64.wrap ((j : Int) + 1) = ((j + 1 : Nat) : Int) := w64_succ (by omega)
    have f1 : fitsB (j + 1) 136 := fits (by omega) (by omega)
    have e1 : r6.rq (j + 1) = r6.rq j ++ [(r6.rq' j).req] := rfl
    have e2 : r6.rq' (j + 1) = (r6.rq' j).req' := rfl
    have hl := r6.rq_length j
    have hsj := hsane j
    have hsN := hsane N
    have hbN := r6.rq_bad j
    have m8 := rgood_meets (G := G) (r6.rq' j)
    generalize r6.rq j = x at *
    cases hb : (r6.rq' j).bad
    · generalize r6.rq' j = q at *
      have m7 := rqread_meets (G := G) q
      generalize q.req' = q' at *
      generalize q.req = t at *
      have hS := Reqs_snoc x t
      simp only [Req.av, Chg.av] at hS
      simp [hj, rfM, hb, dv]
      refine call_intro m8 ?_ ?_
      · simp [rfM, hb]
      simp [rfM, hb, dv]
      refine call_intro m7 ?_ ?_
      · simp [rfM, hb]
      simp [rfM, f1, hl, hw, hS, dv, Req.av, Chg.av]
      exact ⟨(), _, Weak.re0 1000 (by simp [e1, e2]), trivial⟩
    · have hbn := hbN hb N (by omega)
      have s1 := hsj hb
      have s2 := hsN hbn
      generalize r6.rq' j = q at *
      generalize r6.rq' N = p at *
      simp [hj, rfM, hb, dv]
      refine call_intro m8 ?_ ?_
      · simp [rfM, hb]
      simp [rfM, hb, dv]
      refine call_intro m8 ?_ ?_
      · simp [rfM, hb]
      simp [rfM, hb, dv]
      refine post_end (.inr rfl) ?_
      simp [Blk.avR, Blk.zero, hb, hbn, s1, s2, dv]
  · intro _ c _
    have hl := r6.rq_length N
    generalize r6.rq N = x at *
    generalize r6.rq' N = q at *
    have m8 := rgood_meets (G := G) q
    simp [rfM, dv]
    refine call_intro m8 ?_ ?_
    · simp [rfM]
    cases hb : q.bad
    · simp [rfM, hb, dv]
      refine post_end (.inr rfl) ?_
      simp [Blk.avR, hl, hb, dv]
    · simp [rfM, hb, dv]
      refine post_end (.inr rfl) ?_
      simp [Blk.avR, Blk.zero, hb, dv]
end Go.Proofs.Ytmdjimkndeklmaa.WL
