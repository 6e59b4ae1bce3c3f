/-
  CHAPTER 09: contracts of the reference: reading replies.
-/
import Derived.Test.YtmdjimkndeklmaaS09b
namespace Go.Proofs.Ytmdjimkndeklmaa.WL
open Go
set_option maxHeartbeats 4000000
variable {G : Nat → Option AV}

theorem rqrrep_meets (r : Rd) : Meets Try.prog G fn_r09_ReadReply [.ptr 1000 0 0] (rfM r) true (r.rep.avR 3000 1) (rfM r.rep' ++ [(3000, .rows 1 1 (Strs r.rep.vals))]) := by
  refine meets_of_go mix k_r09_ReadReply ⟨by simp [rfM], by simp [rfM, Rep.avR], by simp [rfM]⟩ ?_
  obtain ⟨hN, hN2⟩ := r.repN_eq
  have hsane : ∀ n, (r.p4.tx' n).sane := r.p4.tx_sane (Rd.inn_sane _ _ _)
  have hrep : r.rep = if (r.p4.tx' r.repN).bad = true then Rep.zero else ⟨r.inn 1 64, r.p1.inn 1 1099511627776, r.p2.inn 0 1024, r.p4.tx r.repN⟩ := rfl
  have hrep' : r.rep' = r.p4.tx' r.repN := rfl
  rw [hrep, hrep']
  generalize r.repN = N at *
  unfold Rd.p4 Rd.p3 Rd.p2 Rd.p1 at *
  have m1 := rin_meets (G := G) r 1 64
  generalize r.inn' 1 64 = r1 at *
  have m2 := rin_meets (G := G) r1 1 1099511627776
  generalize r1.inn' 1 1099511627776 = r2 at *
  have m3 := rin_meets (G := G) r2 0 1024
  generalize r2.inn' 0 1024 = r3 at *
  have m4 := rin_meets (G := G) r3 0 256
  rw [← hN] at m4
  generalize r3.inn' 0 256 = r4 at *
  generalize r.inn 1 64 = a1 at *
  generalize r1.inn 1 1099511627776 = a2 at *
  generalize r2.inn 0 1024 = a3 at *
  simp [rfM]
  refine call_intro m1 ?_ ?_
  · simp [rfM]
  simp [rfM]
  refine call_intro m2 ?_ ?_
  · simp [rfM]
  simp [rfM]
  refine call_intro m3 ?_ ?_
  · simp [rfM]
  simp [rfM]
  refine call_intro m4 ?_ ?_
  · simp [rfM]
  simp [rfM]
  refine go_up N (fun j (_ : Unit) => True) (fun j _ c => ⟨[(0, .ptr 1000 0 0), (2, .ptr 2 c 0), (3, .ptr 3 c 0), (4, .v (.int .i64 (N : Nat))), (5, .v (.int .i64 (j : Nat)))],
    [(2, .var c (.node [.v (.int .i64 0), .v (.int .i64 0), .v (.int .i64 0), .v (.slice none 0 0)])), (3, .var c (.node [.v (.int .i64 a1), .v (.int .i64 a2), .v (.int .i64 a3), .row 31 1 c 0 j])), (31, .rows c 1 (Strs (r4.tx j))),
     (1000, .var 0 (.node [.v (.string (mkS (r4.tx' j).s)), .v (.bool (r4.tx' j).bad)]))], c + 1⟩) () _ (Weak.re0 1000 (by simp [Rd.tx, Rd.tx'])) trivial ?_ ?_
  · intro j _ c hj _
    have hw : IntKind.i64.wrap ((j : Int) + 1) = ((j + 1 : Nat) : Int) := w64_succ (by omega)
    have f1 : fitsB (j + 1) 16 := fits (by omega) (by omega)
    have e1 : r4.tx (j + 1) = r4.tx j ++ [(r4.tx' j).text 1024] := rfl
    have e2 : r4.tx' (j + 1) = (r4.tx' j).text' 1024 := rfl
    have hl := r4.tx_length j
    have hsj := hsane j
    have hsN := hsane N
    have hbN := r4.tx_bad j
    have m6 := rgood_meets (G := G) (r4.tx' j)
    generalize r4.tx j = x at *
    cases hb : (r4.tx' j).bad
    · generalize r4.tx' j = q at *
      have m5 := rtext_meets (G := G) q 1024
      generalize q.text' 1024 = q' at *
      generalize q.text 1024 = t at *
      have hS : Strs x ++ [AV.v (.string (mkS t))] = Strs (x ++ [t]) := by simp [Strs]
      simp [hj, rfM, hb]
      refine call_intro m6 ?_ ?_
      · simp [rfM, hb]
      simp [rfM, hb]
      refine call_intro m5 ?_ ?_
      · simp [rfM, hb]
      simp [rfM, f1, hl, hw, hS]
      exact ⟨(), _, Weak.re0 1000 (by simp [e1, e2]), trivial⟩
    · have hbn := hbN hb N (by omega)
      have s1 := hsj hb
      have s2 := hsN hbn
      generalize r4.tx' j = q at *
      generalize r4.tx' N = p at *
      simp [hj, rfM, hb]
      refine call_intro m6 ?_ ?_
      · simp [rfM, hb]
      simp [rfM, hb]
      refine call_intro m6 ?_ ?_
      · simp [rfM, hb]
      simp [rfM, hb]
      refine post_end (.inr rfl) ?_
      simp [Rep.avR, Rep.zero, hb, hbn, s1, s2]
  · intro _ c _
    have hl := r4.tx_length N
    generalize r4.tx N = x at *
    generalize r4.tx' N = q at *
    have m6 := rgood_meets (G := G) q
    simp [rfM]
    refine call_intro m6 ?_ ?_
    · simp [rfM]
    cases hb : q.bad
    · simp [rfM, hb]
      refine post_end (.inr rfl) ?_
      simp [Rep.avR, hl, hb]
    · simp [rfM, hb]
      refine post_end (.inr rfl) ?_
      simp [Rep.avR, Rep.zero, hb]
end Go.Proofs.Ytmdjimkndeklmaa.WL
