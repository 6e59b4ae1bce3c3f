/-
  CHAPTER 09: contracts of replies; the reference.
-/
import Derived.Test.YtmdjimkndeklmaaDoorS09a
namespace Go.Proofs.YtmdjimkndeklmaaDoor.WL
open Go
set_option maxHeartbeats 4000000
variable {G : Nat → Option AV}

theorem qwrep_meets (bs : Bytes) (a : Rep) (h : bs.length + a.bytes.length ≤ 60000000) (hn : a.vals.length ≤ 1000000) : Meets Tryd.prog G fn_request_WriteReply [.ptr 1000 0 0, a.avS] (wrM 0 bs) true (.tup []) (wrM 1 (bs ++ a.bytes)) := by
  refine meets_of_go mix k_request_WriteReply ⟨by simp [wrM], by simp, by simp [wrM]⟩ ?_
  have hb : a.bytes = nums [a.client, a.num, a.code, (a.vals.length : Int)] ++ txts a.vals := rfl
  rw [hb] at h ⊢
  rw [List.length_append] at h
  have n1 := nums_length [a.client, a.num, a.code, (a.vals.length : Int)]
  have m1 := wnum_meets (G := G) bs [a.client, a.num, a.code, (a.vals.length : Int)] (by simp; omega)
  generalize nums [a.client, a.num, a.code, (a.vals.length : Int)] = x1 at *
  have m2 := wtext_meets (G := G) (bs ++ x1) a.vals (by rw [List.length_append]; omega) (by omega)
  generalize txts a.vals = x2 at *
  rw [← List.append_assoc]
  generalize bs ++ x1 ++ x2 = y2 at *
  generalize bs ++ x1 = y1 at *
  simp [Rep.avS, wrM]
  refine call_intro m1 ?_ ?_
  · simp [wrM, I64_4]
  simp [wrM, I64_4]
  refine call_intro m2 ?_ ?_
  · simp [wrM]
  simp [wrM]
  refine post_end (.inl rfl) ?_
  simp

theorem qsame_meets (a b : Rep) (ha : a.bytes.length ≤ 60000000) (hb : b.bytes.length ≤ 60000000) (hna : a.vals.length ≤ 1000000) (hnb : b.vals.length ≤ 1000000) :
    Meets Tryd.prog G fn_request_Same [a.avS, b.avS] [] true (.v (.bool (decide (a.bytes = b.bytes)))) [] := by
  refine meets_of_go mix k_request_Same ⟨by simp, by simp, by simp⟩ ?_
  have m1 := qwrep_meets (G := G) [] a (by simpa using ha) hna
  have m2 := qwrep_meets (G := G) [] b (by simpa using hb) hnb
  rw [List.nil_append] at m1 m2
  have b1 := bytes_meets (G := G) a.bytes (by omega)
  have b2 := bytes_meets (G := G) b.bytes (by omega)
  generalize a.bytes = x at *
  generalize b.bytes = y at *
  have hx : List.take x.length x = x := List.take_of_length_le (by omega)
  have hy : List.take y.length y = y := List.take_of_length_le (by omega)
  simp [Rep.avS]
  refine call_intro m1 ?_ ?_
  · simp [wrM, Rep.avS]
  simp [wrM, Rep.avS]
  refine call_intro m2 ?_ ?_
  · simp [wrM, Rep.avS]
  simp [wrM, Rep.avS]
  refine call_intro b1 ?_ ?_
  · simp [wrM]
  simp [wrM, hx]
  refine call_intro b2 ?_ ?_
  · simp [wrM]
  simp [wrM, hy]
  refine post_end (.inr rfl) ?_
  have hbeq : (x == y) = decide (x = y) := by rw [Bool.eq_iff_iff]; simp
  simp [hbeq]

/-! The reference. -/
def Rep.same (a b : Rep) : Bool := decide (a.client = b.client) && decide (a.num = b.num) && decide (a.code = b.code) && decide (a.vals = b.vals)
end Go.Proofs.YtmdjimkndeklmaaDoor.WL
