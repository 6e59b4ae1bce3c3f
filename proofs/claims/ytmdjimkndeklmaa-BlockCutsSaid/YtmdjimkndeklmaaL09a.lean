/-
  CHAPTER 09: walks of laws.
-/
import Derived.Test.YtmdjimkndeklmaaS09b
import Derived.Test.YtmdjimkndeklmaaP09
namespace Go.Proofs.Ytmdjimkndeklmaa.WL
open Go
set_option maxHeartbeats 4000000
variable {G : Nat → Option AV}

def Req.put : Req := ⟨1, 1, 2, [107], [118], [], Chg.zero⟩
theorem put_meets : Meets Try.prog G fn_l09_put [] [] true Req.put.av [] := by
  refine meets_of_go mix k_l09_put ⟨by simp, by simp [Req.av, Chg.av], by simp⟩ ?_
  simp
  refine post_end (.inr rfl) ?_
  simp [Req.av, Chg.av, Req.put, Chg.zero]

theorem alive9_meets : Meets Try.prog G fn_l09_alive [] [] true (.v (.bool true)) [] := by
  refine meets_of_go mix k_l09_alive ⟨by simp, by simp, by simp⟩ ?_
  have hl : Req.put.bytes.length = 102 := by rw [Req.bytes_len]; rfl
  have m1 := qwrite_meets (G := G) [] Req.put (by rw [hl]; simp)
  rw [List.nil_append] at m1
  have m2 := qgood_meets (G := G) Req.put
  have hg : Req.put.good = true := by decide
  rw [hg] at m2
  have m3 := bytes_meets (G := G) Req.put.bytes (by omega)
  have m4 := qsame_meets (G := G) ⟨0, 1, 0, []⟩ ⟨0, 1, 0, []⟩ (by decide) (by decide) (by simp) (by simp)
  have m0 := put_meets (G := G)
  generalize Req.put.bytes = x at *
  generalize Req.put = q at *
  rw [hl] at m3
  have hx : List.take 102 x = x := List.take_of_length_le (by omega)
  simp
  refine call_intro m0 ?_ ?_
  · simp
  simp
  refine call_intro m1 ?_ ?_
  · simp [wrM, Req.av, Chg.av]
  simp [wrM, Req.av, Chg.av]
  refine call_intro m0 ?_ ?_
  · simp
  simp
  refine call_intro m2 ?_ ?_
  · simp [Req.av, Chg.av]
  simp [Req.av, Chg.av, hl]
  refine call_intro m3 ?_ ?_
  · simp [wrM, hl]
  simp [wrM, hl]
  refine call_intro m4 ?_ ?_
  · simp [Rep.avS]
  simp [Rep.avS]
  refine post_end (.inr rfl) ?_
  simp

def Req.longF (q : Req) : Bool := decide (4096 < q.key.length) || decide (4096 < q.val.length) || decide (4096 < q.old.length)
theorem long_meets (q : Req) : Meets Try.prog G fn_l09_long [q.av] [] true (.v (.bool q.longF)) [] := by
  refine meets_of_go mix k_l09_long ⟨by simp, by simp, by simp⟩ ?_
  unfold Req.longF
  by_cases c1 : (4096 : Int) < (q.key.length : Nat)
  · have d1 : 4096 < q.key.length := by omega
    simp [Req.av, Chg.av, c1]
    refine post_end (.inr rfl) ?_
    simp [d1]
  have d1 : ¬ 4096 < q.key.length := by omega
  by_cases c2 : (4096 : Int) < (q.val.length : Nat)
  · have d2 : 4096 < q.val.length := by omega
    simp [Req.av, Chg.av, c1, c2]
    refine post_end (.inr rfl) ?_
    simp [d2]
  have d2 : ¬ 4096 < q.val.length := by omega
  by_cases c3 : (4096 : Int) < (q.old.length : Nat)
  · have d3 : 4096 < q.old.length := by omega
    simp [Req.av, Chg.av, c1, c2, c3]
    refine post_end (.inr rfl) ?_
    simp [d3]
  have d3 : ¬ 4096 < q.old.length := by omega
  simp [Req.av, Chg.av, c1, c2, c3]
  refine post_end (.inr rfl) ?_
  simp [d1, d2, d3]

def lenSum (ss : List Bytes) : Nat := (ss.map List.length).sum
theorem lenSum_snoc (ss : List Bytes) (j : Nat) (h : j < ss.length) : lenSum (ss.take (j + 1)) = lenSum (ss.take j) + ss[j].length := by
  unfold lenSum
  rw [take_snoc _ _ h]
  simp only [List.map_append, List.sum_append, List.map_cons, List.map_nil, List.sum_cons, List.sum_nil, Nat.add_zero]
theorem lenSum_le (ss : List Bytes) (j : Nat) : lenSum (ss.take j) ≤ lenSum ss := by
  conv => rhs; rw [← List.take_append_drop j ss]
  simp only [lenSum, List.map_append, List.sum_append]
  omega
theorem txts_lenSum (ss : List Bytes) : (txts ss).length = 4 * ss.length + lenSum ss := by
  induction ss with
  | nil => rfl
  | cons a ss ih =>
    have e : txts (a :: ss) = txt a ++ txts ss := by simp [txts]
    have e2 : lenSum (a :: ss) = a.length + lenSum ss := by simp [lenSum]
    rw [e, e2, List.length_append, txt_length, ih, List.length_cons]
    omega
def Rep.large (a : Rep) : Bool := decide (400 < a.vals.length) || decide (16384 < lenSum a.vals)
theorem large_meets (a : Rep) (hf : ∀ v ∈ a.vals, v.length ≤ reachBytes) : Meets Try.prog G fn_l09_large [a.avS] [] true (.v (.bool a.large)) [] := by
  refine meets_of_go mix k_l09_large ⟨by simp, by simp, by simp⟩ ?_
  unfold Rep.large
  by_cases c1 : (400 : Int) < (a.vals.length : Nat)
  · have d1 : 400 < a.vals.length := by omega
    simp [Rep.avS, c1]
    refine post_end (.inr rfl) ?_
    simp [d1]
  have d1 : ¬ 400 < a.vals.length := by omega
  simp [Rep.avS, c1]
  refine go_up a.vals.length (fun j (n : Nat) => n = lenSum (a.vals.take j) ∧ n ≤ 16384) (fun j n c => ⟨[(3, .v (.int .i64 (n : Nat))), (11, .sl 1 (Strs a.vals)), (12, .v (.int .i64 (a.vals.length : Nat))), (13, .v (.int .i64 (j : Nat)))], [], c + 1⟩) 0 _ (Weak.re (by simp)) (by simp [lenSum]) ?_ ?_
  · rintro j n c hj ⟨hn, hn2⟩
    have hw : IntKind.i64.wrap ((j : Int) + 1) = ((j + 1 : Nat) : Int) := w64_succ (by omega)
    have hs := lenSum_snoc a.vals j hj
    rw [← hn] at hs
    have hle := lenSum_le a.vals (j + 1)
    have hr := hf a.vals[j] (List.getElem_mem hj)
    unfold reachBytes at hr
    obtain ⟨m, hm⟩ : ∃ m, m = n + a.vals[j].length := ⟨_, rfl⟩
    have w1 : IntKind.i64.wrap ((n : Int) + (a.vals[j].length : Nat)) = (m : Int) := by rw [w64_id (by omega)]; omega
    by_cases c2 : (16384 : Int) < (m : Int)
    · have d2 : 16384 < lenSum a.vals := by omega
      simp [hj, w1, c2]
      refine post_end (.inr rfl) ?_
      simp [d2]
    · simp [hj, w1, c2, hw]
      exact ⟨m, _, Weak.re (by simp), by omega, by omega⟩
  · rintro n c ⟨hn, hn2⟩
    rw [List.take_length] at hn
    have d2 : ¬ 16384 < lenSum a.vals := by omega
    simp
    refine post_end (.inr rfl) ?_
    simp [d1, d2]
theorem large_no {a : Rep} (h : a.large = false) : a.vals.length ≤ 400 ∧ lenSum a.vals ≤ 16384 ∧ a.bytes.length ≤ 20000 := by
  simp only [Rep.large, Bool.or_eq_false_iff, decide_eq_false_iff_not] at h
  refine ⟨by omega, by omega, ?_⟩
  have h1 := txts_lenSum a.vals
  have h2 := nums_length [a.client, a.num, a.code, (a.vals.length : Int)]
  simp only [Rep.bytes, List.length_append, List.length_cons, List.length_nil] at h2 ⊢
  omega
theorem large_fits {a : Rep} (h : a.large = false) (h1 : W64 a.client) (h2 : W64 a.num) (h3 : W64 a.code) : a.Fits := by
  obtain ⟨k1, k2, _⟩ := large_no h
  refine ⟨h1, h2, h3, by omega, fun v hv => ?_⟩
  have : v.length ≤ lenSum a.vals := by
    obtain ⟨i, hi, rfl⟩ := List.getElem_of_mem hv
    have := lenSum_snoc a.vals i hi
    have := lenSum_le a.vals (i + 1)
    omega
  omega

theorem reqSames_walk (a b : Rep) (ha : W64 a.client ∧ W64 a.num ∧ W64 a.code) (hb : W64 b.client ∧ W64 b.num ∧ W64 b.code) (hfa : ∀ v ∈ a.vals, v.length ≤ reachBytes) (hfb : ∀ v ∈ b.vals, v.length ≤ reachBytes) :
    Meets Try.prog G fn_l09_RequestSames [a.avS, b.avS] [] true (.v (.bool true)) [] := by
  refine meets_of_go mix k_l09_RequestSames ⟨by simp, by simp, by simp⟩ ?_
  have m1 := large_meets (G := G) a hfa
  have m2 := large_meets (G := G) b hfb
  simp [Rep.avS]
  refine call_intro alive9_meets ?_ ?_
  · simp
  simp
  refine call_intro m1 ?_ ?_
  · simp [Rep.avS]
  cases hla : a.large
  · simp [Rep.avS]
    refine call_intro m2 ?_ ?_
    · simp [Rep.avS]
    cases hlb : b.large
    · obtain ⟨k1, k2, k3⟩ := large_no hla
      obtain ⟨l1, l2, l3⟩ := large_no hlb
      have n1 := qwrep_meets (G := G) [] a (by simp; omega) (by omega)
      have n2 := qwrep_meets (G := G) [] b (by simp; omega) (by omega)
      rw [List.nil_append] at n1 n2
      have n3 := qsame_meets (G := G) a b (by omega) (by omega) (by omega) (by omega)
      have n4 := qsame_meets (G := G) b a (by omega) (by omega) (by omega) (by omega)
      have n5 := qsame_meets (G := G) b b (by omega) (by omega) (by omega) (by omega)
      have b1 := bytes_meets (G := G) a.bytes (by omega)
      have b2 := bytes_meets (G := G) b.bytes (by omega)
      generalize a.bytes = x at *
      generalize b.bytes = y at *
      have hx : List.take x.length x = x := List.take_of_length_le (by omega)
      have hy : List.take y.length y = y := List.take_of_length_le (by omega)
      have hbeq : (x == y) = decide (x = y) := by rw [Bool.eq_iff_iff]; simp
      have hsym : decide (y = x) = decide (x = y) := by rw [Bool.eq_iff_iff]; simp [eq_comm]
      rw [hsym] at n4
      rw [decide_eq_true rfl] at n5
      generalize decide (x = y) = e at *
      simp [Rep.avS]
      refine call_intro n1 ?_ ?_
      · simp [wrM, Rep.avS]
      simp [wrM, Rep.avS]
      refine call_intro n2 ?_ ?_
      · simp [wrM, Rep.avS]
      simp [wrM, Rep.avS]
      refine call_intro n3 ?_ ?_
      · simp [Rep.avS]
      simp [Rep.avS]
      refine call_intro b1 ?_ ?_
      · simp [wrM]
      simp [wrM, hx]
      refine call_intro b2 ?_ ?_
      · simp [wrM]
      simp [wrM, hy, hbeq]
      refine call_intro n3 ?_ ?_
      · simp [Rep.avS]
      simp [Rep.avS]
      refine call_intro n4 ?_ ?_
      · simp [Rep.avS]
      simp [Rep.avS]
      refine call_intro n5 ?_ ?_
      · simp [Rep.avS]
      simp [Rep.avS]
      refine post_end (.inr rfl) ?_
      simp
    · simp [Rep.avS]
      refine post_end (.inr rfl) ?_
      simp
  · simp [Rep.avS]
    refine post_end (.inr rfl) ?_
    simp
end Go.Proofs.Ytmdjimkndeklmaa.WL
