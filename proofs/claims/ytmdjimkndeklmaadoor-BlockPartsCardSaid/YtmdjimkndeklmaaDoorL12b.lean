/-
  CHAPTER 12: walks of laws: reading.
-/
import Derived.Test.YtmdjimkndeklmaaDoorL12a
import Derived.Test.YtmdjimkndeklmaaDoorP12b
namespace Go.Proofs.YtmdjimkndeklmaaDoor.WL
open Go
set_option maxHeartbeats 4000000
variable {G : Nat → Option AV}

theorem great_no {b : Blk} {m : Nat} (h : b.great m = false) : b.qs.length ≤ 40 ∧ (reqsB b.qs).length ≤ m := by
  simp only [Blk.great, Bool.or_eq_false_iff, decide_eq_false_iff_not] at h
  omega
theorem reqsB_mem {qs : List Req} {q : Req} (h : q ∈ qs) : q.bytes.length ≤ (reqsB qs).length := by
  obtain ⟨a, b, rfl⟩ := List.append_of_mem h
  simp only [reqsB, List.flatMap_append, List.flatMap_cons, List.length_append]
  omega
theorem Blk.fits_of {b : Blk} {m : Nat} (h : b.great m = false) (hm : m ≤ 1000000) (he : W64 b.epoch) (hh : W64 b.height)
    (hq : ∀ q ∈ b.qs, W64 q.client ∧ W64 q.num ∧ W64 q.kind ∧ W64 q.ch.kind ∧ W64 q.ch.id ∧ W64 q.ch.new ∧ W64 q.ch.height) : b.Fits := by
  obtain ⟨h1, h2⟩ := great_no h
  refine ⟨he, hh, by omega, fun q hm' => ?_⟩
  obtain ⟨k1, k2, k3, k4, k5, k6, k7⟩ := hq q hm'
  have := reqsB_mem hm'
  rw [Req.bytes_len] at this
  exact ⟨k1, k2, k3, k4, k5, k6, k7, by omega, by omega, by omega⟩
theorem Rd.blk_few (r : Rd) : r.blk.qs.length ≤ 8 := by
  have := r.blkN_eq
  unfold Rd.blk
  split
  · simp [Blk.zero]
  · simp [Rd.blk0]; omega

end Go.Proofs.YtmdjimkndeklmaaDoor.WL
