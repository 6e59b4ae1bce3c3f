/-
  CHAPTER 09: walks of laws: requests' bytes and digests.
-/
import Derived.Test.YtmdjimkndeklmaaDoorL09b
import Derived.Test.YtmdjimkndeklmaaDoorS09d
namespace Go.Proofs.YtmdjimkndeklmaaDoor.WL
open Go
set_option maxHeartbeats 4000000
attribute [local irreducible] comp hb sha

theorem reqParts_walk (a b : Req) (ha : W64 a.client ∧ W64 a.num ∧ W64 a.kind ∧ W64 a.ch.kind ∧ W64 a.ch.id ∧ W64 a.ch.new ∧ W64 a.ch.height) (hb : W64 b.client ∧ W64 b.num ∧ W64 b.kind ∧ W64 b.ch.kind ∧ W64 b.ch.id ∧ W64 b.ch.new ∧ W64 b.ch.height) :
    Meets Tryd.prog Gt fn_l09_RequestParts [a.av, b.av] [] true (.v (.bool true)) [] := by
  refine meets_of_go mix k_l09_RequestParts ⟨by simp, by simp, by simp⟩ ?_
  have m1 := long_meets (G := Gt) a
  have m2 := long_meets (G := Gt) b
  simp [Req.av, Chg.av]
  refine call_intro alive9_meets ?_ ?_
  · simp
  simp
  refine call_intro m1 ?_ ?_
  · simp [Req.av, Chg.av]
  cases hla : a.longF
  · simp [Req.av, Chg.av]
    refine call_intro m2 ?_ ?_
    · simp [Req.av, Chg.av]
    cases hlb : b.longF
    · obtain ⟨k1, k2, k3⟩ := longF_no hla
      obtain ⟨l1, l2, l3⟩ := longF_no hlb
      have hfa : a.Fits := ⟨ha.1, ha.2.1, ha.2.2.1, ha.2.2.2.1, ha.2.2.2.2.1, ha.2.2.2.2.2.1, ha.2.2.2.2.2.2, by omega, by omega, by omega⟩
      have hfb : b.Fits := ⟨hb.1, hb.2.1, hb.2.2.1, hb.2.2.2.1, hb.2.2.2.2.1, hb.2.2.2.2.2.1, hb.2.2.2.2.2.2, by omega, by omega, by omega⟩
      have hal := Req.bytes_len a
      have hbl := Req.bytes_len b
      have hinj := Req.bytes_inj hfa hfb
      have n1 := qwrite_meets (G := Gt) [] a (by simp; omega)
      have n2 := qwrite_meets (G := Gt) [] b (by simp; omega)
      rw [List.nil_append] at n1 n2
      have n3 := bytes_meets (G := Gt) a.bytes (by omega)
      have n4 := bytes_meets (G := Gt) b.bytes (by omega)
      have n5 := qdigest_meets a (by omega)
      have n6 := qdigest_meets b (by omega)
      have hab : a = b → a.dg = b.dg := fun h => by rw [h]
      have hcmp := cmp_reqs a b
      generalize a.bytes = x at *
      generalize b.bytes = y at *
      generalize a.dg = d at *
      generalize b.dg = e at *
      have hx : List.take x.length x = x := List.take_of_length_le (by omega)
      have hy : List.take y.length y = y := List.take_of_length_le (by omega)
      simp [Req.av, Chg.av]
      refine call_intro n1 ?_ ?_
      · simp [wrM, Req.av, Chg.av]
      simp [wrM, Req.av, Chg.av]
      refine call_intro n2 ?_ ?_
      · simp [wrM, Req.av, Chg.av]
      simp [wrM, Req.av, Chg.av]
      refine call_intro n3 ?_ ?_
      · simp [wrM]
      simp [wrM, hx]
      refine call_intro n4 ?_ ?_
      · simp [wrM]
      by_cases hs : a = b
      · have hxy := hinj.2 hs
        obtain rfl := hab hs
        rw [decide_eq_true hs] at hcmp
        simp [wrM, hy, hxy, hcmp, Req.av, Chg.av]
        refine call_intro n5 ?_ ?_
        · simp [Req.av, Chg.av]
        simp [Req.av, Chg.av]
        refine call_intro n6 ?_ ?_
        · simp [Req.av, Chg.av]
        simp [dv]
        refine post_end (.inr rfl) ?_
        simp
      · have hxy : ¬ x = y := fun h => hs (hinj.1 h)
        have hbe : (x == y) = false := by simpa using hxy
        rw [decide_eq_false hs] at hcmp
        simp [wrM, hy, hxy, hbe, hcmp, Req.av, Chg.av]
        refine post_end (.inr rfl) ?_
        simp
    · simp
      refine post_end (.inr rfl) ?_
      simp
  · simp
    refine post_end (.inr rfl) ?_
    simp
end Go.Proofs.YtmdjimkndeklmaaDoor.WL
