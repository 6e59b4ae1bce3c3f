/-
  CHAPTER 12: walks of laws: blocks' bytes and digests.
-/
import Derived.Test.YtmdjimkndeklmaaDoorL12b
import Derived.Test.YtmdjimkndeklmaaDoorS12g
namespace Go.Proofs.YtmdjimkndeklmaaDoor.WL
open Go
set_option maxHeartbeats 4000000
attribute [local irreducible] comp hb sha

theorem blkParts_walk (a b : Blk) (hea : W64 a.epoch) (hha : W64 a.height)
    (hqa : ∀ x ∈ a.qs, W64 x.client ∧ W64 x.num ∧ W64 x.kind ∧ W64 x.ch.kind ∧ W64 x.ch.id ∧ W64 x.ch.new ∧ W64 x.ch.height)
    (hfa : ∀ x ∈ a.qs, x.key.length ≤ reachBytes ∧ x.val.length ≤ reachBytes ∧ x.old.length ≤ reachBytes)
    (heb : W64 b.epoch) (hhb : W64 b.height)
    (hqb : ∀ x ∈ b.qs, W64 x.client ∧ W64 x.num ∧ W64 x.kind ∧ W64 x.ch.kind ∧ W64 x.ch.id ∧ W64 x.ch.new ∧ W64 x.ch.height)
    (hfb : ∀ x ∈ b.qs, x.key.length ≤ reachBytes ∧ x.val.length ≤ reachBytes ∧ x.old.length ≤ reachBytes) :
    Meets Tryd.prog Gt fn_l12_BlockParts [a.avS, b.avS] [] true (.v (.bool true)) [] := by
  refine meets_of_go mix k_l12_BlockParts ⟨by simp, by simp, by simp⟩ ?_
  have m1 := bgreat_meets (G := Gt) a 8192 (by omega) hfa
  have m2 := bgreat_meets (G := Gt) b 8192 (by omega) hfb
  simp [Blk.avS, dv]
  refine call_intro alive12_meets ?_ ?_
  · simp
  simp
  refine call_intro m1 ?_ ?_
  · simp [Blk.avS, dv]
  cases hla : a.great 8192
  case true =>
    simp
    refine post_end (.inr rfl) ?_
    simp
  simp [Blk.avS, dv]
  refine call_intro m2 ?_ ?_
  · simp [Blk.avS, dv]
  cases hlb : b.great 8192
  case true =>
    simp
    refine post_end (.inr rfl) ?_
    simp
  obtain ⟨k1, k2⟩ := great_no hla
  obtain ⟨l1, l2⟩ := great_no hlb
  have hfita := Blk.fits_of hla (by omega) hea hha hqa
  have hfitb := Blk.fits_of hlb (by omega) heb hhb hqb
  have hal := Blk.bytes_len a
  have hbl := Blk.bytes_len b
  have hinj := Blk.bytes_inj hfita hfitb
  have n1 := bwrite_meets (G := Gt) [] a (by simp; omega) (by omega)
  have n2 := bwrite_meets (G := Gt) [] b (by simp; omega) (by omega)
  rw [List.nil_append] at n1 n2
  have n0 := rbsame_meets (G := Gt) a b (by omega)
  have n3 := bytes_meets (G := Gt) a.bytes (by omega)
  have n4 := bytes_meets (G := Gt) b.bytes (by omega)
  have n5 := bdigest_meets a (by omega) (by omega)
  have n6 := bdigest_meets b (by omega) (by omega)
  have hab : a = b → a.dg = b.dg := fun h => by rw [h]
  have hsi := Blk.same_iff a b
  generalize a.bytes = x at *
  generalize b.bytes = y at *
  generalize a.dg = d at *
  generalize b.dg = e at *
  have hx : List.take x.length x = x := List.take_of_length_le (by omega)
  have hy : List.take y.length y = y := List.take_of_length_le (by omega)
  simp [Blk.avS, dv]
  refine call_intro n1 ?_ ?_
  · simp [wrM, Blk.avS, dv]
  simp [wrM, Blk.avS, dv]
  refine call_intro n2 ?_ ?_
  · simp [wrM, Blk.avS, dv]
  simp [wrM, Blk.avS, dv]
  refine call_intro n0 ?_ ?_
  · simp [Blk.avS, dv]
  simp [Blk.avS, dv]
  refine call_intro n3 ?_ ?_
  · simp [wrM]
  simp [wrM, hx]
  refine call_intro n4 ?_ ?_
  · simp [wrM]
  cases hs : a.same b
  · have hxy : ¬ x = y := fun h => by rw [hsi.2 (hinj.1 h)] at hs; cases hs
    have hbe : (x == y) = false := by simpa using hxy
    simp [wrM, hy, hxy, hbe]
    refine post_end (.inr rfl) ?_
    simp
  · have hxy := hinj.2 (hsi.1 hs)
    obtain rfl := hab (hsi.1 hs)
    simp [wrM, hy, hxy, Blk.avS, dv]
    refine call_intro n5 ?_ ?_
    · simp [Blk.avS, dv]
    simp [Blk.avS, dv]
    refine call_intro n6 ?_ ?_
    · simp [Blk.avS, dv]
    simp [dv]
    refine post_end (.inr rfl) ?_
    simp
end Go.Proofs.YtmdjimkndeklmaaDoor.WL
