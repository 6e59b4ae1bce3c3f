/-
  CHAPTER 12: walks of laws: bytes that are cut.
-/
import Derived.Test.YtmdjimkndeklmaaL12b
namespace Go.Proofs.Ytmdjimkndeklmaa.WL
open Go
set_option maxHeartbeats 4000000
variable {G : Nat → Option AV}

theorem blkCuts_walk (q : Blk) (at_ : Int) (he : W64 q.epoch) (hh : W64 q.height)
    (hq : ∀ x ∈ q.qs, W64 x.client ∧ W64 x.num ∧ W64 x.kind ∧ W64 x.ch.kind ∧ W64 x.ch.id ∧ W64 x.ch.new ∧ W64 x.ch.height)
    (hf : ∀ x ∈ q.qs, x.key.length ≤ reachBytes ∧ x.val.length ≤ reachBytes ∧ x.old.length ≤ reachBytes) :
    Meets Try.prog G fn_l12_BlockCuts [q.avS, .v (.int .i64 at_)] [] true (.v (.bool true)) [] := by
  refine meets_of_go mix k_l12_BlockCuts ⟨by simp, by simp, by simp⟩ ?_
  have m1 := bgreat_meets (G := G) q 8192 (by omega) hf
  have m2 := rbgood_meets (G := G) q
  simp [Blk.avS, dv]
  refine call_intro alive12_meets ?_ ?_
  · simp
  simp
  refine call_intro m1 ?_ ?_
  · simp [Blk.avS, dv]
  simp [Blk.avS, dv]
  cases hlq : q.great 8192
  case true =>
    simp
    refine post_end (.inr rfl) ?_
    simp
  simp [Blk.avS, dv]
  refine call_intro m2 ?_ ?_
  · simp [Blk.avS, dv]
  cases hg : q.good
  case false =>
    simp
    refine post_end (.inr rfl) ?_
    simp
  obtain ⟨k1, k2⟩ := great_no hlq
  have hfit := Blk.fits_of hlq (by omega) he hh hq
  have hcut := blk_cut q hfit hg
  have hmore := blk_more q hfit hg [7]
  have hql := Blk.bytes_len q
  have n8 := bwrite_meets (G := G) [] q (by simp; omega) (by omega)
  rw [List.nil_append] at n8
  have n9 := bytes_meets (G := G) q.bytes (by omega)
  generalize q.bytes = y at *
  have hy : List.take y.length y = y := List.take_of_length_le (by omega)
  simp [Blk.avS, dv]
  refine call_intro n8 ?_ ?_
  · simp [wrM, Blk.avS, dv]
  simp [wrM, Blk.avS, dv]
  refine call_intro n9 ?_ ?_
  · simp [wrM]
  by_cases c1 : at_ < 0
  · simp [wrM, c1]
    refine post_end (.inr rfl) ?_
    simp
  by_cases c2 : (y.length : Int) ≤ at_
  · simp [wrM, c1, c2]
    refine post_end (.inr rfl) ?_
    simp
  obtain ⟨k, hk, rfl⟩ : ∃ k : Nat, k < y.length ∧ at_ = (k : Int) := ⟨at_.toNat, by omega, by omega⟩
  obtain ⟨hc1, hc2⟩ := hcut k hk
  obtain ⟨hm1, hm2⟩ := hmore
  have htl : (y.take k).length = k := by rw [List.length_take]; omega
  have htk : List.take k (y.take k) = y.take k := List.take_of_length_le (by omega)
  have f1 : fitsB (y.length + 1) 1 := fits (by omega) (by omega)
  have f2 : fitsB y.length 1 := fits (by omega) (by omega)
  have n1 := read_meets (G := G) (y.take k) (fits (by omega) (by omega))
  have n2 := read_meets (G := G) (y ++ [7]) (fits (by simp; omega) (by simp; omega))
  have n3 := bread_meets (G := G) (Rd.of (y.take k))
  have n4 := bread_meets (G := G) (Rd.of (y ++ [7]))
  rw [hc2] at n3
  rw [hm1, hm2] at n4
  have n5 := good_meets (G := G) (Rd.of (y.take k)).blk'
  rw [hc1] at n5
  generalize (Rd.of (y.take k)).blk' = r1 at *
  have n6 := good_meets (G := G) ⟨y, [7], false⟩
  have n7 := end_meets (G := G) ⟨y, [7], false⟩
  have n10 := rbsame_meets (G := G) Blk.zero Blk.zero (by simp [Blk.zero])
  have n11 := rbsame_meets (G := G) q q (by omega)
  rw [(Blk.same_iff _ _).2 rfl] at n10 n11
  have hofs : ∀ w : Bytes, (Rd.of w).s = w ∧ (Rd.of w).pre = [] ∧ (Rd.of w).bad = false := fun w => ⟨rfl, rfl, rfl⟩
  have hke : k ≤ y.length := by omega
  have hB7 : B y ++ [AV.v (.int .u8 7)] = B (y ++ [7]) := by rw [← B_append]; rfl
  have hl7 : (y ++ [7]).length = y.length + 1 := by simp
  have ht7 : List.take (y.length + 1) (y ++ [7]) = y ++ [7] := List.take_of_length_le (by omega)
  have hmk : min k y.length = k := by omega
  generalize y ++ [7] = x7 at *
  have htq : List.take q.qs.length q.qs = q.qs := List.take_of_length_le (by omega)
  simp [wrM, c1, c2, hk, hke]
  refine call_intro n1 ?_ ?_
  · simp [hke]
  simp [f1, f2, hy, hB7]
  refine call_intro n2 ?_ ?_
  · simp [hl7, ht7]
  simp
  refine call_intro n3 ?_ ?_
  · simp [rdM, hofs]
  simp [rdM, Blk.avR, Blk.zero, dv]
  refine call_intro n4 ?_ ?_
  · simp [rdM, hofs]
  simp [rdM, Blk.avR, Blk.zero, dv]
  refine call_intro n10 ?_ ?_
  · simp [Blk.avS, Blk.zero, dv]
  simp [Blk.avS, Blk.zero, dv, hc1]
  refine call_intro n5 ?_ ?_
  · simp [rdM, hc1]
  simp [rdM, hc1]
  refine call_intro n11 ?_ ?_
  · simp [Blk.avS, dv, htq]
  simp [Blk.avS, dv, htq]
  refine call_intro n6 ?_ ?_
  · simp [rdM]
  simp [rdM]
  refine call_intro n7 ?_ ?_
  · simp [rdM]
  simp [rdM, Rd.done]
  refine post_end (.inr rfl) ?_
  simp
end Go.Proofs.Ytmdjimkndeklmaa.WL
