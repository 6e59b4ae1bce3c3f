/-
  CHAPTER 09: a request's digest.
-/
import Derived.Test.YtmdjimkndeklmaaDoorS09a
import Derived.Test.YtmdjimkndeklmaaDoorS02f
namespace Go.Proofs.YtmdjimkndeklmaaDoor.WL
open Go
set_option maxHeartbeats 4000000
attribute [local irreducible] comp hb sha

def bRequest : Bytes := [114, 101, 113, 117, 101, 115, 116]
def Req.dg (q : Req) : Dg := sha (bRequest ++ q.bytes)
theorem B_request : B bRequest = [AV.v (.int .u8 114), .v (.int .u8 101), .v (.int .u8 113), .v (.int .u8 117), .v (.int .u8 101), .v (.int .u8 115), .v (.int .u8 116)] := (rfl)
theorem qdigest_meets (q : Req) (h : q.bytes.length ≤ 50000000) : Meets Tryd.prog Gt fn_request_Digest [q.av] [] true (dv q.dg) [] := by
  refine meets_of_go mix k_request_Digest ⟨by simp, by simp, by simp⟩ ?_
  have hrl : bRequest.length = 7 := rfl
  have e : cat [bRequest, q.bytes] = bRequest ++ q.bytes := by simp [cat]
  have m1 := qwrite_meets (G := Gt) [] q (by simp; omega)
  rw [List.nil_append] at m1
  have m2 := bytes_meets (G := Gt) q.bytes (by omega)
  have m3 := of_meets [bRequest, q.bytes] (by simp) (by rw [e, List.length_append, hrl]; omega)
  rw [e] at m3
  unfold Req.dg
  generalize sha (bRequest ++ q.bytes) = d at *
  generalize q.bytes = x at *
  have hx : List.take x.length x = x := List.take_of_length_le (by omega)
  have hB := B_request
  generalize bRequest = r at *
  have hr : List.take 7 r = r := List.take_of_length_le (by omega)
  simp [Req.av, Chg.av]
  refine call_intro m1 ?_ ?_
  · simp [wrM, Req.av, Chg.av]
  simp [wrM, Req.av, Chg.av]
  refine call_intro m2 ?_ ?_
  · simp [wrM]
  simp [wrM]
  refine call_intro m3 ?_ ?_
  · simp [Bss, hB, hx, hr]
  simp
  refine post_end (.inr rfl) ?_
  simp
end Go.Proofs.YtmdjimkndeklmaaDoor.WL
