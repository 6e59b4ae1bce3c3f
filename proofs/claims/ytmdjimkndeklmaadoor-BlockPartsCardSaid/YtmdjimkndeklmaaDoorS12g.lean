/-
  CHAPTER 12: a block's digest.
-/
import Derived.Test.YtmdjimkndeklmaaDoorS12a
import Derived.Test.YtmdjimkndeklmaaDoorS02f
namespace Go.Proofs.YtmdjimkndeklmaaDoor.WL
open Go
set_option maxHeartbeats 4000000
attribute [local irreducible] comp hb sha

def bBlock : Bytes := [98, 108, 111, 99, 107]
def Blk.dg (q : Blk) : Dg := sha (bBlock ++ q.bytes)
theorem B_block : B bBlock = [AV.v (.int .u8 98), .v (.int .u8 108), .v (.int .u8 111), .v (.int .u8 99), .v (.int .u8 107)] := (rfl)
theorem bdigest_meets (q : Blk) (h : q.bytes.length ≤ 50000000) (hn : q.qs.length ≤ 1000000) : Meets Tryd.prog Gt fn_block_Digest [q.avS] [] true (dv q.dg) [] := by
  refine meets_of_go mix k_block_Digest ⟨by simp, by simp, by simp⟩ ?_
  have hrl : bBlock.length = 5 := rfl
  have e : cat [bBlock, q.bytes] = bBlock ++ q.bytes := by simp [cat]
  have m1 := bwrite_meets (G := Gt) [] q (by simp; omega) hn
  rw [List.nil_append] at m1
  have m2 := bytes_meets (G := Gt) q.bytes (by omega)
  have m3 := of_meets [bBlock, q.bytes] (by simp) (by rw [e, List.length_append, hrl]; omega)
  rw [e] at m3
  unfold Blk.dg
  generalize sha (bBlock ++ q.bytes) = d at *
  generalize q.bytes = x at *
  have hx : List.take x.length x = x := List.take_of_length_le (by omega)
  have hB := B_block
  generalize bBlock = r at *
  have hr : List.take 5 r = r := List.take_of_length_le (by omega)
  simp [Blk.avS, dv]
  refine call_intro m1 ?_ ?_
  · simp [wrM, Blk.avS, dv]
  simp [wrM, Blk.avS, dv]
  refine call_intro m2 ?_ ?_
  · simp [wrM]
  simp [wrM]
  refine call_intro m3 ?_ ?_
  · simp [Bss, hB, hx, hr]
  simp
  refine post_end (.inr rfl) ?_
  simp
end Go.Proofs.YtmdjimkndeklmaaDoor.WL
