/-
  CHAPTER 09: walks of laws.
-/
import Derived.Test.YtmdjimkndeklmaaDoorS09b
import Derived.Test.YtmdjimkndeklmaaDoorP09
namespace Go.Proofs.YtmdjimkndeklmaaDoor.WL
open Go
set_option maxHeartbeats 4000000
variable {G : Nat → Option AV}

def Req.put : Req := ⟨1, 1, 2, [107], [118], [], Chg.zero⟩
theorem put_meets : Meets Tryd.prog G fn_l09_put [] [] true Req.put.av [] := by
  refine meets_of_go mix k_l09_put ⟨by simp, by simp [Req.av, Chg.av], by simp⟩ ?_
  simp
  refine post_end (.inr rfl) ?_
  simp [Req.av, Chg.av, Req.put, Chg.zero]

theorem alive9_meets : Meets Tryd.prog G fn_l09_alive [] [] true (.v (.bool true)) [] := by
  refine meets_of_go mix k_l09_alive ⟨by simp, by simp, by simp⟩ ?_
  have hl : Req.put.bytes.length = 102 := by rw [Req.bytes_len]; rfl
  have m1 := qwrite_meets (G := G) [] Req.put (by rw [hl]; simp)
  rw [List.nil_append] at m1
  have m2 := qgood_meets (G := G) Req.put
  have hg : Req.put.good = true := by decide
  rw [hg] at m2
  have m3 := bytes_meets (G := G) Req.put.bytes (by omega)
  have m4 := qsame_meets (G := G) ⟨0, 1, 0, []⟩ ⟨0, 1, 0, []⟩ (by decide) (by decide) (by simp) (by simp)
  have m0 := put_meets (G := G)
  generalize Req.put.bytes = x at *
  generalize Req.put = q at *
  rw [hl] at m3
  have hx : List.take 102 x = x := List.take_of_length_le (by omega)
  simp
  refine call_intro m0 ?_ ?_
  · simp
  simp
  refine call_intro m1 ?_ ?_
  · simp [wrM, Req.av, Chg.av]
  simp [wrM, Req.av, Chg.av]
  refine call_intro m0 ?_ ?_
  · simp
  simp
  refine call_intro m2 ?_ ?_
  · simp [Req.av, Chg.av]
  simp [Req.av, Chg.av, hl]
  refine call_intro m3 ?_ ?_
  · simp [wrM, hl]
  simp [wrM, hl]
  refine call_intro m4 ?_ ?_
  · simp [Rep.avS]
  simp [Rep.avS]
  refine post_end (.inr rfl) ?_
  simp

def Req.longF (q : Req) : Bool := decide (4096 < q.key.length) || decide (4096 < q.val.length) || decide (4096 < q.old.length)
theorem long_meets (q : Req) : Meets Tryd.prog G fn_l09_long [q.av] [] true (.v (.bool q.longF)) [] := by
  refine meets_of_go mix k_l09_long ⟨by simp, by simp, by simp⟩ ?_
  unfold Req.longF
  by_cases c1 : (4096 : Int) < (q.key.length : Nat)
  · have d1 : 4096 < q.key.length := by omega
    simp [Req.av, Chg.av, c1]
    refine post_end (.inr rfl) ?_
    simp [d1]
  have d1 : ¬ 4096 < q.key.length := by omega
  by_cases c2 : (4096 : Int) < (q.val.length : Nat)
  · have d2 : 4096 < q.val.length := by omega
    simp [Req.av, Chg.av, c1, c2]
    refine post_end (.inr rfl) ?_
    simp [d2]
  have d2 : ¬ 4096 < q.val.length := by omega
  by_cases c3 : (4096 : Int) < (q.old.length : Nat)
  · have d3 : 4096 < q.old.length := by omega
    simp [Req.av, Chg.av, c1, c2, c3]
    refine post_end (.inr rfl) ?_
    simp [d3]
  have d3 : ¬ 4096 < q.old.length := by omega
  simp [Req.av, Chg.av, c1, c2, c3]
  refine post_end (.inr rfl) ?_
  simp [d1, d2, d3]

def lenSum (ss : List Bytes) : Nat := (ss.map List.length).sum
theorem lenSum_snoc (ss : List Bytes) (j : Nat) (h : j < ss.length) : lenSum (ss.take (j + 1)) = lenSum (ss.take j) + ss[j].length := by
  unfold lenSum
  rw [take_snoc _ _ h]
  simp only [List.map_append, List.sum_append, List.map_cons, List.map_nil, List.sum_cons, List.sum_nil, Nat.add_zero]
theorem lenSum_le (ss : List Bytes) (j : Nat) : lenSum (ss.take j) ≤ lenSum ss := by
  conv => rhs; rw [← List.take_append_drop j ss]
  simp only [lenSum, List.map_append, List.sum_append]
  omega
theorem txts_lenSum (ss : List Bytes) : (txts ss).length = 4 * ss.length + lenSum ss := by
  induction ss with
  | nil => rfl
  | cons a ss ih =>
    have e : txts (a :: ss) = txt a ++ txts ss := by simp [txts]
    have e2 : lenSum (a :: ss) = a.length + lenSum ss := by simp [lenSum]
    rw [e, e2, List.length_append, txt_length, ih, List.length_cons]
    omega
def Rep.large (a : Rep) : Bool := decide (400 < a.vals.length) || decide (16384 < lenSum a.vals)
theorem large_no {a : Rep} (h : a.large = false) : a.vals.length ≤ 400 ∧ lenSum a.vals ≤ 16384 ∧ a.bytes.length ≤ 20000 := by
  simp only [Rep.large, Bool.or_eq_false_iff, decide_eq_false_iff_not] at h
  refine ⟨by omega, by omega, ?_⟩
  have h1 := txts_lenSum a.vals
  have h2 := nums_length [a.client, a.num, a.code, (a.vals.length : Int)]
  simp only [Rep.bytes, List.length_append, List.length_cons, List.length_nil] at h2 ⊢
  omega
theorem large_fits {a : Rep} (h : a.large = false) (h1 : W64 a.client) (h2 : W64 a.num) (h3 : W64 a.code) : a.Fits := by
  obtain ⟨k1, k2, _⟩ := large_no h
  refine ⟨h1, h2, h3, by omega, fun v hv => ?_⟩
  have : v.length ≤ lenSum a.vals := by
    obtain ⟨i, hi, rfl⟩ := List.getElem_of_mem hv
    have := lenSum_snoc a.vals i hi
    have := lenSum_le a.vals (i + 1)
    omega
  omega

end Go.Proofs.YtmdjimkndeklmaaDoor.WL
