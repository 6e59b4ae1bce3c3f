/-
  CHAPTER 05: walks of laws: writing.
-/
import Derived.Test.YtmdjimkndeklmaaDoorL05b
import Derived.Test.YtmdjimkndeklmaaDoorS05d
namespace Go.Proofs.YtmdjimkndeklmaaDoor.WL
open Go
set_option maxHeartbeats 4000000
attribute [local irreducible] comp hb sha leafD pairD secD shutD wholeD pubD ofD

theorem sig_len (r : Rd) : r.sig.op.length ≤ 32 ∧ r.sig.sh.length ≤ 32 ∧ r.sig.path.length ≤ 6 := by
  have := r.sN_eq
  unfold Rd.sig
  split
  · simp [Sig.zero]
  · simp [Rd.sig0]; omega

theorem keysWrite_walk (s : Sig) (b : Bytes) (hl : -9223372036854775808 ≤ s.leaf ∧ s.leaf < 9223372036854775808) :
    Meets Tryd.prog Gt fn_l05_KeysWrite [s.avS, .sl 1 (B b)] [] true (.v (.bool true)) [] := by
  refine meets_of_go mix k_l05_KeysWrite ⟨by simp, by simp, by simp⟩ ?_
  have m0 := great5_meets s
  simp [Sig.avS]
  refine call_intro alive5_meets ?_ ?_
  · simp
  simp
  refine call_intro m0 ?_ ?_
  · simp [Sig.avS]
  cases hg : s.greatF
  · by_cases c1 : (8192 : Int) < (b.length : Nat)
    · simp [Sig.avS, c1]
      refine post_end (.inr rfl) ?_
      simp
    · obtain ⟨g1, g2, g3⟩ := greatF_no hg
      have hofs : ∀ w : Bytes, (Rd.of w).s = w ∧ (Rd.of w).pre = [] ∧ (Rd.of w).bad = false := fun w => ⟨rfl, rfl, rfl⟩
      have n1 := read_meets (G := Gt) b (fits (by omega) (by omega))
      have n2 := kread_meets (G := Gt) (Rd.of b)
      have n3 := rkread_meets (G := Gt) (Rd.of b)
      have hxl := sig_len (Rd.of b)
      generalize (Rd.of b).sig = x at *
      generalize (Rd.of b).sig' = r1 at *
      have n4 := good_meets (G := Gt) r1
      have n5 := rgood_meets (G := Gt) r1
      have n6 := end_meets (G := Gt) r1
      have n7 := rend_meets (G := Gt) r1
      have n8 := rksame_meets (G := Gt) x x (by omega) (by omega) (by omega)
      rw [same_refl] at n8
      cases hok : s.ok
      · have p1 := kwrite_bad (G := Gt) [] s hok
        have p2 := rkwrite_bad (G := Gt) s hok
        have p3 := bytes_meets (G := Gt) [] (by simp)
        have p4 := read_meets (G := Gt) [] (fits (by simp) (by simp))
        simp [Sig.avS, c1]
        refine call_intro p1 ?_ ?_
        · simp [wrM, Sig.avS]
        simp [wrM, Sig.avS]
        refine call_intro p2 ?_ ?_
        · simp [Sig.avS]
        simp [Sig.avS]
        refine call_intro p3 ?_ ?_
        · simp [wrM]
        simp [wrM]
        refine call_intro n1 ?_ ?_
        · simp
        simp
        refine call_intro n2 ?_ ?_
        · simp [rdM, hofs, Sig.avR, Sig.rows]
        simp [rdM, Sig.avR, Sig.rows]
        refine call_intro n3 ?_ ?_
        · simp [rfM, hofs, Sig.avR, Sig.rows]
        simp [rfM, Sig.avR, Sig.rows]
        refine call_intro n8 ?_ ?_
        · simp [Sig.avS]
        simp [Sig.avS]
        refine call_intro n4 ?_ ?_
        · simp [rdM]
        simp [rdM]
        refine call_intro n5 ?_ ?_
        · simp [rfM]
        simp [rfM]
        refine call_intro n6 ?_ ?_
        · simp [rdM]
        simp [rdM]
        refine call_intro n7 ?_ ?_
        · simp [rfM]
        simp [rfM]
        refine call_intro p3 ?_ ?_
        · simp [wrM]
        simp [wrM]
        refine call_intro p4 ?_ ?_
        · simp
        simp
        refine post_end (.inr rfl) ?_
        simp
      · have p1 := kwrite_meets (G := Gt) [] s hok (by simp)
        rw [List.nil_append] at p1
        have p2 := rkwrite_meets (G := Gt) s hok
        have hbl := Sig.bytes_len s
        have p3 := bytes_meets (G := Gt) s.bytes (by omega)
        have p4 := read_meets (G := Gt) s.bytes (fits (by omega) (by omega))
        have hback := sig_back s hl hok
        have p5 := kread_meets (G := Gt) (Rd.of s.bytes)
        have p6 := end_meets (G := Gt) (Rd.of s.bytes).sig'
        rw [hback.2] at p6
        rw [hback.1] at p5
        generalize (Rd.of s.bytes).sig' = r2 at *
        have p7 := rksame_meets (G := Gt) s s (by omega) (by omega) (by omega)
        rw [same_refl] at p7
        have p8 := rksame_meets (G := Gt) Sig.zero Sig.zero (by simp [Sig.zero]) (by simp [Sig.zero]) (by simp [Sig.zero])
        rw [same_refl] at p8
        generalize s.bytes = y at *
        have hy : List.take y.length y = y := List.take_of_length_le (by omega)
        simp [Sig.avS, c1]
        refine call_intro p1 ?_ ?_
        · simp [wrM, Sig.avS]
        simp [wrM, Sig.avS]
        refine call_intro p2 ?_ ?_
        · simp [Sig.avS]
        simp [Sig.avS]
        refine call_intro p3 ?_ ?_
        · simp [wrM]
        simp [wrM, hy]
        refine call_intro n1 ?_ ?_
        · simp
        simp
        refine call_intro n2 ?_ ?_
        · simp [rdM, hofs, Sig.avR, Sig.rows]
        simp [rdM, Sig.avR, Sig.rows]
        refine call_intro n3 ?_ ?_
        · simp [rfM, hofs, Sig.avR, Sig.rows]
        simp [rfM, Sig.avR, Sig.rows]
        refine call_intro n8 ?_ ?_
        · simp [Sig.avS]
        simp [Sig.avS]
        refine call_intro n4 ?_ ?_
        · simp [rdM]
        simp [rdM]
        refine call_intro n5 ?_ ?_
        · simp [rfM]
        simp [rfM]
        refine call_intro n6 ?_ ?_
        · simp [rdM]
        simp [rdM]
        refine call_intro n7 ?_ ?_
        · simp [rfM]
        simp [rfM]
        refine call_intro p3 ?_ ?_
        · simp [wrM]
        simp [wrM, hy]
        refine call_intro p4 ?_ ?_
        · simp [hy]
        simp [hy]
        refine call_intro p5 ?_ ?_
        · simp [rdM, hofs, Sig.avR, Sig.rows]
        simp [rdM, Sig.avR, Sig.rows]
        refine call_intro p7 ?_ ?_
        · simp [Sig.avS]
        simp [Sig.avS]
        refine call_intro p6 ?_ ?_
        · simp [rdM]
        simp [rdM]
        refine call_intro kread_nil ?_ ?_
        · simp
        simp
        refine call_intro p8 ?_ ?_
        · simp [Sig.avS, Sig.zero]
        simp [Sig.avS, Sig.zero]
        refine post_end (.inr rfl) ?_
        simp
  · simp [Sig.avS]
    refine post_end (.inr rfl) ?_
    simp
end Go.Proofs.YtmdjimkndeklmaaDoor.WL
