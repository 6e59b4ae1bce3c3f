/-
  CHAPTER 12: walks of laws: reading.
-/
import Derived.Test.YtmdjimkndeklmaaL12a
import Derived.Test.YtmdjimkndeklmaaP12b
namespace Go.Proofs.Ytmdjimkndeklmaa.WL
open Go
set_option maxHeartbeats 4000000
variable {G : Nat → Option AV}

theorem great_no {b : Blk} {m : Nat} (h : b.great m = false) : b.qs.length ≤ 40 ∧ (reqsB b.qs).length ≤ m := by
  simp only [Blk.great, Bool.or_eq_false_iff, decide_eq_false_iff_not] at h
  omega
theorem reqsB_mem {qs : List Req} {q : Req} (h : q ∈ qs) : q.bytes.length ≤ (reqsB qs).length := by
  obtain ⟨a, b, rfl⟩ := List.append_of_mem h
  simp only [reqsB, List.flatMap_append, List.flatMap_cons, List.length_append]
  omega
theorem Blk.fits_of {b : Blk} {m : Nat} (h : b.great m = false) (hm : m ≤ 1000000) (he : W64 b.epoch) (hh : W64 b.height)
    (hq : ∀ q ∈ b.qs, W64 q.client ∧ W64 q.num ∧ W64 q.kind ∧ W64 q.ch.kind ∧ W64 q.ch.id ∧ W64 q.ch.new ∧ W64 q.ch.height) : b.Fits := by
  obtain ⟨h1, h2⟩ := great_no h
  refine ⟨he, hh, by omega, fun q hm' => ?_⟩
  obtain ⟨k1, k2, k3, k4, k5, k6, k7⟩ := hq q hm'
  have := reqsB_mem hm'
  rw [Req.bytes_len] at this
  exact ⟨k1, k2, k3, k4, k5, k6, k7, by omega, by omega, by omega⟩
theorem Rd.blk_few (r : Rd) : r.blk.qs.length ≤ 8 := by
  have := r.blkN_eq
  unfold Rd.blk
  split
  · simp [Blk.zero]
  · simp [Rd.blk0]; omega

theorem blkReads_walk (q : Blk) (b : Bytes) (he : W64 q.epoch) (hh : W64 q.height)
    (hq : ∀ x ∈ q.qs, W64 x.client ∧ W64 x.num ∧ W64 x.kind ∧ W64 x.ch.kind ∧ W64 x.ch.id ∧ W64 x.ch.new ∧ W64 x.ch.height)
    (hf : ∀ x ∈ q.qs, x.key.length ≤ reachBytes ∧ x.val.length ≤ reachBytes ∧ x.old.length ≤ reachBytes) :
    Meets Try.prog G fn_l12_BlockReads [q.avS, .sl 1 (B b)] [] true (.v (.bool true)) [] := by
  refine meets_of_go mix k_l12_BlockReads ⟨by simp, by simp, by simp⟩ ?_
  have m1 := bgreat_meets (G := G) q 8192 (by omega) hf
  simp [Blk.avS, dv]
  refine call_intro alive12_meets ?_ ?_
  · simp
  simp
  refine call_intro m1 ?_ ?_
  · simp [Blk.avS, dv]
  simp [Blk.avS, dv]
  cases hlq : q.great 8192
  case true =>
    simp
    refine post_end (.inr rfl) ?_
    simp
  by_cases c1 : (8192 : Int) < (b.length : Nat)
  · simp [c1]
    refine post_end (.inr rfl) ?_
    simp
  obtain ⟨k1, k2⟩ := great_no hlq
  have hfit := Blk.fits_of hlq (by omega) he hh hq
  have hback := blk_back q hfit
  have hql := Blk.bytes_len q
  have n1 := read_meets (G := G) b (fits (by omega) (by omega))
  have n2 := bread_meets (G := G) (Rd.of b)
  have n3 := rbread_meets (G := G) (Rd.of b)
  have hx8 := (Rd.of b).blk_few
  generalize (Rd.of b).blk = x at *
  generalize (Rd.of b).blk' = r1 at *
  have n0 := rbsame_meets (G := G) x x (by omega)
  rw [(Blk.same_iff x x).2 rfl] at n0
  have n4 := good_meets (G := G) r1
  have n5 := rgood_meets (G := G) r1
  have n6 := end_meets (G := G) r1
  have n7 := rend_meets (G := G) r1
  have n8 := bwrite_meets (G := G) [] q (by simp; omega) (by omega)
  rw [List.nil_append] at n8
  have n9 := bytes_meets (G := G) q.bytes (by omega)
  have n10 := read_meets (G := G) q.bytes (fits (by omega) (by omega))
  have n11 := bread_meets (G := G) (Rd.of q.bytes)
  have n12 := end_meets (G := G) (Rd.of q.bytes).blk'
  have n13 := rbgood_meets (G := G) q
  obtain ⟨hb1, hb2⟩ := hback
  rw [hb1] at n12
  have hz8 := (Rd.of q.bytes).blk_few
  generalize (Rd.of q.bytes).blk = z at *
  generalize (Rd.of q.bytes).blk' = r2 at *
  have n14 := rbsame_meets (G := G) z q (by omega)
  have hofs : ∀ w : Bytes, (Rd.of w).s = w ∧ (Rd.of w).pre = [] ∧ (Rd.of w).bad = false := fun w => ⟨rfl, rfl, rfl⟩
  generalize q.bytes = y at *
  have hy : List.take y.length y = y := List.take_of_length_le (by omega)
  have htb : List.take b.length b = b := List.take_of_length_le (by omega)
  have htx : List.take x.qs.length x.qs = x.qs := List.take_of_length_le (by omega)
  have htz : List.take z.qs.length z.qs = z.qs := List.take_of_length_le (by omega)
  simp [c1]
  refine call_intro n1 ?_ ?_
  · simp
  simp
  refine call_intro n2 ?_ ?_
  · simp [rdM, hofs]
  simp [rdM, Blk.avR, dv]
  refine call_intro n3 ?_ ?_
  · simp [rfM, hofs]
  simp [rfM, Blk.avR, dv]
  refine call_intro n0 ?_ ?_
  · simp [Blk.avS, dv, htx]
  simp [Blk.avS, dv, htx]
  refine call_intro n4 ?_ ?_
  · simp [rdM]
  simp [rdM]
  refine call_intro n5 ?_ ?_
  · simp [rfM]
  simp [rfM]
  refine call_intro n6 ?_ ?_
  · simp [rdM]
  simp [rdM]
  refine call_intro n7 ?_ ?_
  · simp [rfM]
  simp [rfM]
  refine call_intro n8 ?_ ?_
  · simp [wrM, Blk.avS, dv]
  simp [wrM, Blk.avS, dv]
  refine call_intro n9 ?_ ?_
  · simp [wrM]
  simp [wrM]
  refine call_intro n10 ?_ ?_
  · simp [hy]
  simp [hy]
  refine call_intro n11 ?_ ?_
  · simp [rdM, hofs]
  simp [rdM, Blk.avR, dv]
  refine call_intro n12 ?_ ?_
  · simp [rdM]
  simp [rdM]
  refine call_intro n13 ?_ ?_
  · simp [Blk.avS, dv]
  simp [Blk.avS, dv]
  refine call_intro n12 ?_ ?_
  · simp [rdM]
  cases hg : q.good
  · simp [rdM]
    refine post_end (.inr rfl) ?_
    simp
  · obtain rfl := hb2 hg
    rw [(Blk.same_iff z z).2 rfl] at n14
    simp [rdM]
    refine call_intro n14 ?_ ?_
    · simp [Blk.avS, dv, htz]
    simp
    refine post_end (.inr rfl) ?_
    simp
end Go.Proofs.Ytmdjimkndeklmaa.WL
