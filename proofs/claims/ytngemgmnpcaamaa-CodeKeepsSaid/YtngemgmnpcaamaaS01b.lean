/-
  CHAPTER 01: contracts of the reader, second part.
-/
import Derived.Test.YtngemgmnpcaamaaS01a
namespace Go.Proofs.Ytngemgmnpcaamaa.WL
open Go

/-- What the bytes are worth, as the code reckons it. -/
def numStep (v b : Int) : Int := bitsOp .or .u64 (IntKind.u64.wrap (v * 256)) (IntKind.u64.wrap b)
def numF (bs : List Int) : Int := bs.foldl numStep 0

theorem numF_succ (l : List Int) (j : Nat) (b : Int) (h : l[j]? = some b) : numF (l.take (j + 1)) = numStep (numF (l.take j)) b := by
  unfold numF
  rw [List.take_add_one, h]
  simp

def idxAt (t : Nat) (S : SA) : Nat := match look S.fr t with | some (.v (.int _ i)) => i.toNat | _ => 0

theorem num_meets {G : Nat → Option AV} (bs : List Int) (off n : Nat) (h : off + n ≤ bs.length) (hb : bs.length ≤ 65536) (hk : 8 ≤ n) :
    Meets Try.prog G 16 [.ptr 1000 0 0] (rdM 0 bs off n) true (.v (.int .i64 (IntKind.i64.wrap (numF ((bs.drop off).take 8))))) (rdM 1 bs (off + 8) (n - 8)) := by
  refine meets_of_go mix c16_chk ⟨by simp [rdM], by simp [rdM], by simp [rdM]⟩ ?_
  simp [c16, c16r0, c16r1, c16r2, rdM]
  refine call_intro (take_meets bs off n 8 h hb hk) ?_ ?_
  · simp [rdM]
  simp [rdM]
  refine go_loop (fun S' => ∃ j c, j ≤ 8 ∧ S' = ⟨[(3, .v (.int .u64 (numF ((bs.drop off).take j)))), (7, .row 1072000 1 5 off 8), (8, .v (.int .i64 8)), (9, .v (.int .i64 (j : Nat)))], [(1000, .var 0 (.node [.row 1072000 1 5 (off + 8) (n - 8), .v (.bool false)])), (1072000, .rows 5 1 (B bs))], c⟩)
    (fun S => 9 - idxAt 9 S) _ (Weak.refl _) ⟨0, _, by omega, by simp [numF]; rfl⟩ ?_
  rintro S' ⟨j, c, hj, rfl⟩
  simp [c16r3]
  refine goC_split (fun hlt => ?_) (fun hge => ?_)
  · have hlt1 : (j : Int) < 8 := by simpa using hlt
    have hlt' : j < 8 := by omega
    have hx : off + j < bs.length := by omega
    have hw : IntKind.i64.wrap ((j : Int) + 1) = ((j + 1 : Nat) : Int) := by simp [IntKind.wrap, IntKind.bits, IntKind.signed]; omega
    have e2 : bitsOp BinOp.or IntKind.u64 (IntKind.u64.wrap (numF (List.take j (List.drop off bs)) * 2 ^ min 8 IntKind.u64.bits)) (IntKind.u64.wrap bs[off + j]) = numF (List.take (j + 1) (List.drop off bs)) := by
      simp [numF_succ (bs.drop off) j bs[off + j] (by simp [hx]), numStep, IntKind.bits]
    simp [c16r4, c16r5, c16r6, hlt1, hx, hw, e2]
    exact ⟨_, Weak.refl _, ⟨j + 1, by omega, c + 1 + 3 + 6 + 2, by simp⟩, by simp [idxAt]; omega⟩
  · have : j = 8 := by simp at hge; omega
    subst this
    simp [c16r7]
    refine post_end (.inr rfl) ?_
    simp [c16R]

/-- Fewer than eight bytes. -/
theorem num_fails {G : Nat → Option AV} (bs : List Int) (off n : Nat) (hk : n < 8) : Meets Try.prog G 16 [.ptr 1000 0 0] (rdM 0 bs off n) true (.v (.int .i64 0)) badM := by
  refine meets_of_go mix c16_chk ⟨by simp [badM], by simp [badM], by simp [badM]⟩ ?_
  simp [c16, c16r0, c16r1, c16r2]
  refine call_intro (take_fails bs off n 8 (.inr (by omega))) ?_ ?_
  · simp [rdM, badM]
  simp [rdM, badM]
  refine go_loop (fun S' => ∃ c, S' = ⟨[(3, .v (.int .u64 0)), (7, .v (.slice none 0 0)), (8, .v (.int .i64 0)), (9, .v (.int .i64 0))], [(1000, .var 0 (.node [.v (.slice none 0 0), .v (.bool true)]))], c⟩)
    (fun S => 0) _ (Weak.refl _) ⟨_, rfl⟩ ?_
  rintro S' ⟨c, rfl⟩
  simp [c16r3, c16r7]
  refine post_end (.inr rfl) ?_
  simp [c16R]
  decide

theorem num_bad {G : Nat → Option AV} : Meets Try.prog G 16 [.ptr 1000 0 0] badM true (.v (.int .i64 0)) badM := by
  refine meets_of_go mix c16_chk ⟨by simp [badM], by simp [badM], by simp [badM]⟩ ?_
  simp [c16, c16r0, c16r1, c16r2]
  refine call_intro (take_bad 8) ?_ ?_
  · simp [badM]
  simp [badM]
  refine go_loop (fun S' => ∃ c, S' = ⟨[(3, .v (.int .u64 0)), (7, .v (.slice none 0 0)), (8, .v (.int .i64 0)), (9, .v (.int .i64 0))], [(1000, .var 0 (.node [.v (.slice none 0 0), .v (.bool true)]))], c⟩)
    (fun S => 0) _ (Weak.refl _) ⟨_, rfl⟩ ?_
  rintro S' ⟨c, rfl⟩
  simp [c16r3, c16r7]
  refine post_end (.inr rfl) ?_
  simp [c16R]
  decide

theorem splice_all (xs ys : List AV) (h : ys.length = xs.length) : splice xs 0 ys = ys := by simp [splice, h]

theorem digest_meets {G : Nat → Option AV} (bs : List Int) (off n : Nat) (h : off + n ≤ bs.length) (hb : bs.length ≤ 65536) (hk : 32 ≤ n) :
    Meets Try.prog G 15 [.ptr 1000 0 0] (rdM 0 bs off n) true (.arr 1 (B ((bs.drop off).take 32))) (rdM 1 bs (off + 32) (n - 32)) := by
  refine meets_of_go mix c15_chk ⟨by simp [rdM], by simp, by simp [rdM]⟩ ?_
  have h1 : (32 : Nat) ≤ maxLen := by decide
  have h2 : off + 32 ≤ bs.length := by omega
  have h3 : min 32 (bs.length - off) = 32 := by omega
  simp [-List.reduceReplicate, c15, c15r0, c15r1, c15r2, h1]
  refine call_intro (take_meets bs off n 32 h hb hk) ?_ ?_
  · simp [-List.reduceReplicate, rdM]
  simp [-List.reduceReplicate, rdM, h2, h3, splice_all, c15r3]
  refine post_end (.inr rfl) ?_
  simp [-List.reduceReplicate, c15R, h3, List.take_take]

end Go.Proofs.Ytngemgmnpcaamaa.WL
