/- Texts put together: L14d, P14b, L14e, S15a, S15b, S15c, L15a. -/
import Derived.Test.YtjlmpdbagmdbiaaDoorWm13
section
/-
  CHAPTER 14: walks of laws: words that are not right.
-/
namespace Go.Proofs.YtjlmpdbagmdbiaaDoor.WL
open Go
set_option maxHeartbeats 8000000
variable {G : Nat → Option AV}

theorem few_no {c : Conf} {b : Blk} (r : Int) (vs : List Vote) : checkC c b ⟨r, vs.take (quorum c.ms.length - 1)⟩ = false := by
  refine checkC_few ?_
  have := quorum_pos c.ms.length
  simp only [List.length_take]
  omega
theorem twice_no {c : Conf} {b : Blk} {x : Cert} {k : Nat} (h : checkC c b x = true) (hk : k < x.votes.length) : checkC c b ⟨x.round, x.votes ++ [x.votes[k]]⟩ = false := by
  have hr := checkC_rises h
  obtain ⟨n, hn⟩ : ∃ n, x.votes.length = n + 1 := ⟨x.votes.length - 1, by omega⟩
  refine checkC_rise (j := n) (by simp; omega) ?_
  have e1 : (x.votes ++ [x.votes[k]])[n + 1]! = x.votes[k]! := by
    rw [← hn]
    simp [List.getElem!_eq_getElem?_getD, List.getElem?_eq_getElem hk]
  have e2 : (x.votes ++ [x.votes[k]])[n]! = x.votes[n]! := by simp [List.getElem!_eq_getElem?_getD, List.getElem?_append_left (show n < x.votes.length by omega)]
  simp only [e1, e2]
  rcases (show k < n ∨ k = n by omega) with h1 | rfl
  · have := hr k n h1 (by omega)
    omega
  · omega
theorem turned_no {c : Conf} {b : Blk} {x : Cert} (h : checkC c b x = true) (hl : 1 < x.votes.length) : checkC c b ⟨x.round, x.votes.reverse⟩ = false := by
  have hr := checkC_rises h (x.votes.length - 2) (x.votes.length - 1) (by omega) (by omega)
  refine checkC_rise (j := 0) (by simp; omega) ?_
  have e1 : (x.votes.reverse)[0 + 1]! = x.votes[x.votes.length - 2]! := by
    simp only [List.getElem!_eq_getElem?_getD]
    rw [List.getElem?_reverse (by omega)]
    congr 2
  have e2 : (x.votes.reverse)[0]! = x.votes[x.votes.length - 1]! := by
    simp only [List.getElem!_eq_getElem?_getD]
    rw [List.getElem?_reverse (by omega)]
    congr 2
  simp only [e1, e2]
  omega
theorem rev_step (vs : List Vote) {j : Nat} (h : j < vs.length) : vs.reverse.take j ++ [vs[vs.length - 1 - j]] = vs.reverse.take (j + 1) := by
  have h' : j < vs.reverse.length := by simpa using h
  rw [← List.take_append_getElem h', List.getElem_reverse]
attribute [local irreducible] sha comp hb checkK idxOf Vote.signs Vote.good rightV Conf.good Blk.good Blk.dg quorum checkC

theorem certFew_walk (c : Conf) (b : Blk) (x : Cert) (i : Int) (hm : ∀ m ∈ c.ms, W64 m.height) (hv : ∀ v ∈ x.votes, W64 v.sig.leaf)
    (hf : ∀ q ∈ b.qs, q.key.length ≤ reachBytes ∧ q.val.length ≤ reachBytes ∧ q.old.length ≤ reachBytes) :
    Meets Tryd.prog Gt fn_l14_CertFew [c.av, b.avS, x.av, .v (.int .i64 i)] [] true (.v (.bool true)) [] := by
  refine meets_of_go mix k_l14_CertFew ⟨by simp, by simp, by simp⟩ ?_
  have m1 := great14_meets (G := Gt) c b x hf
  cases hgr : greatC c b x
  case true =>
    rw [hgr] at m1
    simp [Conf.av, Blk.avS, Cert.av, dv]
    refine call_intro alive14_meets ?_ ?_
    · simp
    simp
    refine call_intro m1 ?_ ?_
    · simp [Conf.av, Blk.avS, Cert.av, dv]
    simp
    refine post_end (.inr rfl) ?_
    simp
  obtain ⟨g1, g2, g3, g4, g5⟩ := greatC_no hgr
  rw [hgr] at m1
  have m3 := ccheck_meets c b x (by omega) hm hv (by omega) (by omega) (by omega)
  cases hck : checkC c b x
  case false =>
    rw [hck] at m3
    simp [Conf.av, Blk.avS, Cert.av, dv]
    refine call_intro alive14_meets ?_ ?_
    · simp
    simp
    refine call_intro m1 ?_ ?_
    · simp [Conf.av, Blk.avS, Cert.av, dv]
    simp
    refine call_intro m3 ?_ ?_
    · simp [Conf.av, Blk.avS, Cert.av, dv]
    simp
    refine post_end (.inr rfl) ?_
    simp
  have hq := (checkC_parts hck).2.2.2.1
  have hq0 := quorum_pos c.ms.length
  have m2 := rquorum_meets (G := Gt) c.ms.length (by omega)
  have C := fun (y : Cert) (hy : ∀ v ∈ y.votes, v ∈ x.votes) (hl : y.votes.length ≤ 100) (hno : checkC c b y = false) =>
    (show Meets Tryd.prog Gt fn_cert_Check [c.av, b.avS, y.av] [] true (.v (.bool false)) [] from by
      have m := ccheck_meets c b y (by omega) hm (fun v hv' => hv v (hy v hv')) (by omega) (by omega) (by omega)
      rw [hno] at m
      exact m)
  obtain ⟨k, hk, hke⟩ : ∃ k : Nat, k < x.votes.length ∧ IntKind.i64.wrap (Int.tmod (IntKind.u64.wrap i) (x.votes.length : Nat)) = (k : Nat) := by
    refine ⟨(IntKind.u64.wrap i % (x.votes.length : Nat)).toNat, ?_, ?_⟩
    · have := Int.emod_lt_of_pos (IntKind.u64.wrap i) (show (0 : Int) < (x.votes.length : Nat) by omega)
      omega
    · have h1 : 0 ≤ IntKind.u64.wrap i := by rw [u64_mod]; omega
      have h2 := Int.emod_lt_of_pos (IntKind.u64.wrap i) (show (0 : Int) < (x.votes.length : Nat) by omega)
      have h3 := Int.emod_nonneg (IntKind.u64.wrap i) (show ((x.votes.length : Nat) : Int) ≠ 0 by omega)
      rw [Int.tmod_eq_emod_of_nonneg h1, w64_id (by omega)]
      omega
  have hw1 : IntKind.u64.wrap (x.votes.length : Nat) = (x.votes.length : Nat) := u64_id (by omega)
  have n0 : ¬ x.votes.length = 0 := by omega
  have m4 := C ⟨x.round, x.votes.take (quorum c.ms.length - 1)⟩ (fun v hv' => List.mem_of_mem_take hv') (by simp only [List.length_take]; omega) (few_no _ _)
  have m5 := C ⟨x.round, x.votes ++ [x.votes[k]]⟩ (fun v hv' => by
    rcases List.mem_append.1 hv' with h | h
    · exact h
    · rw [List.mem_singleton.1 h]; exact List.getElem_mem hk) (by simp; omega) (twice_no hck hk)
  have m6 : 1 < x.votes.length → _ := fun h => C ⟨x.round, x.votes.reverse⟩ (fun v hv' => List.mem_reverse.1 hv') (by simp; omega) (turned_no hck h)
  rw [hck] at m3
  clear C hck
  generalize quorum c.ms.length = q at *
  have hw2 : IntKind.i64.wrap ((q : Int) - 1) = (q : Int) - 1 := w64_id (by omega)
  have hq1 : ((q : Int) - 1).toNat = q - 1 := by omega
  have hq2 : (1 : Int) ≤ (q : Nat) := by omega
  have hq3 : q - 1 ≤ x.votes.length := by omega
  have hq4 : (q : Int) - 1 ≤ (x.votes.length : Nat) := by omega
  have hw3 : IntKind.i64.wrap ((x.votes.length : Int) - 1) = (x.votes.length : Int) - 1 := w64_id (by omega)
  have f1 : fitsB x.votes.length 152 := fits (by omega) (by omega)
  have f2 : fitsB (x.votes.length + 1) 152 := fits (by omega) (by omega)
  have hmin : min (q - 1) x.votes.length = q - 1 := by omega
  simp [Conf.av, Blk.avS, Cert.av, dv]
  refine call_intro alive14_meets ?_ ?_
  · simp
  simp
  refine call_intro m1 ?_ ?_
  · simp [Conf.av, Blk.avS, Cert.av, dv]
  simp
  refine call_intro m3 ?_ ?_
  · simp [Conf.av, Blk.avS, Cert.av, dv]
  simp
  refine call_intro m2 ?_ ?_
  · simp
  simp [hw2, hq1, hq2, hq3, hq4, hw1, n0, hke, hk, f1, f2, hw3, hmin]
  obtain ⟨F, hF⟩ : ∃ F : Nat → Int, ∀ j, F j = (x.votes.length : Int) - 1 - (j : Int) := ⟨_, fun _ => rfl⟩
  obtain ⟨R, hR⟩ : ∃ R : Nat → List Vote, ∀ j, R j = x.votes.reverse.take j := ⟨_, fun _ => rfl⟩
  have hR0 : R 0 = [] := by rw [hR]; rfl
  have hF0 : F 0 = (x.votes.length : Int) - 1 := by rw [hF]; simp
  have htk : List.take (x.votes.length + 1) (x.votes ++ [x.votes[k]]) = x.votes ++ [x.votes[k]] := List.take_of_length_le (by simp)
  have hvk : [x.votes[k].av] = Votes [x.votes[k]] := rfl
  refine go_up x.votes.length (fun j (_ : Unit) => True) (fun j (_ : Unit) q' => ⟨[(4, .ptr 4 q' 0), (5, .ptr 5 q' 0), (6, .ptr 6 q' 0), (10, .ptr 10 q' 0), (12, .ptr 12 q' 0), (13, .ptr 13 q' 0), (14, .v (.int .i64 (F j)))],
    [(4, .var q' (.node [.v (.int .i64 c.epoch), .sl 34 (Mems c.ms)])), (5, .var q' (.node [.v (.int .i64 b.epoch), .v (.int .i64 b.height), .arr 1 (B b.prev.bs), .arr 1 (B b.state.bs), .arr 1 (B b.next.bs), .sl 42 (Reqs b.qs)])), (6, .var q' (.node [.v (.int .i64 x.round), .sl 41 (Votes x.votes)])),
      (10, .var q' (.node [.v (.int .i64 x.round), .sl 41 (Votes (List.take (q - 1) x.votes))])), (12, .var q' (.node [.v (.int .i64 x.round), .sl 41 (Votes (x.votes ++ [x.votes[k]]))])), (13, .var q' (.node [.v (.int .i64 x.round), .row 81 41 q' 0 (R j).length])), (81, .rows q' 41 (Votes (R j)))], q' + 1⟩) () _ (Weak.re (by simp [hR0, hF0, hvk, htk])) trivial ?_ ?_
  · intro j _ q' hj _
    obtain ⟨n, hn⟩ : ∃ n : Nat, n + 1 + j = x.votes.length := ⟨x.votes.length - 1 - j, by omega⟩
    have hFj : F j = (n : Nat) := by rw [hF]; omega
    have hFj1 : F (j + 1) = (n : Int) - 1 := by rw [hF]; omega
    have hw : IntKind.i64.wrap ((n : Int) - 1) = (n : Int) - 1 := w64_id (by omega)
    have hnl : n < x.votes.length := by omega
    have hs : R j ++ [x.votes[n]] = R (j + 1) := by
      rw [hR, hR, ← rev_step x.votes hj]
      congr 3
      omega
    have hlen : (R j).length = j := by rw [hR, List.length_take, List.length_reverse]; omega
    have hlen1 : (R (j + 1)).length = j + 1 := by rw [hR, List.length_take, List.length_reverse]; omega
    have f3 : fitsB (j + 1) 152 := fits (by omega) (by omega)
    have hvn : [x.votes[n].av] = Votes [x.votes[n]] := rfl
    simp [hFj, hnl, hlen, f3, hw]
    refine ⟨(), _, Weak.re (by simp [hFj1, hlen1, hvn, hs, hlen]), trivial⟩
  · intro _ q' _
    have hFl : F x.votes.length = -1 := by rw [hF]; omega
    have hRl : R x.votes.length = x.votes.reverse := by rw [hR]; exact List.take_of_length_le (by simp)
    simp [hFl, hRl]
    have hrt : List.take x.votes.length x.votes.reverse = x.votes.reverse := List.take_of_length_le (by simp)
    refine call_intro m4 ?_ ?_
    · simp [Conf.av, Blk.avS, Cert.av, dv]
    simp
    refine call_intro m5 ?_ ?_
    · simp [Conf.av, Blk.avS, Cert.av, dv]
    simp
    by_cases h1 : x.votes.length = 1
    · simp [h1]
      refine post_end (.inr rfl) ?_
      simp
    · have m6' := m6 (by omega)
      have h1' : ¬ (x.votes.length : Int) = 1 := by omega
      simp [h1, h1']
      refine call_intro m6' ?_ ?_
      · simp [Conf.av, Blk.avS, Cert.av, dv, hrt]
      simp [hrt]
      refine post_end (.inr rfl) ?_
      simp
end Go.Proofs.YtjlmpdbagmdbiaaDoor.WL

end
section
/-
  CHAPTER 14: two quorums share a weak quorum.
-/
namespace Go.Proofs.YtjlmpdbagmdbiaaDoor.WL
open Go

theorem len_of_sub : ∀ {l m : List Int}, l.Nodup → (∀ x ∈ l, x ∈ m) → l.length ≤ m.length
  | [], _, _, _ => by simp
  | x :: l, m, hn, hs => by
    have hx := hs x List.mem_cons_self
    have hn' := List.nodup_cons.1 hn
    have h1 := len_of_sub (l := l) (m := m.erase x) hn'.2 (fun y hy => by
      have hne : y ≠ x := fun e => hn'.1 (e ▸ hy)
      exact (List.mem_erase_of_ne hne).2 (hs y (List.mem_cons_of_mem _ hy)))
    have h2 := List.length_erase_of_mem hx
    have h3 : 0 < m.length := List.length_pos_of_mem hx
    simp only [List.length_cons]
    omega
/-- How many pairs have one number. -/
def pairs (xs ys : List Int) : Nat := (xs.map fun v => ys.countP fun u => decide (u = v)).sum
theorem pairs_ge : ∀ {xs ys m : List Int}, xs.Nodup → ys.Nodup → (∀ x ∈ xs, x ∈ m) → (∀ y ∈ ys, y ∈ m) → xs.length + ys.length ≤ m.length + pairs xs ys := by
  intro xs ys m hx hy hxm hym
  have h1 : xs.length ≤ (xs.filter fun v => !decide (v ∈ ys)).length + pairs xs ys := by
    clear hx hxm hym
    induction xs with
    | nil => simp
    | cons v xs ih =>
      have e : pairs (v :: xs) ys = ys.countP (fun u => decide (u = v)) + pairs xs ys := by simp [pairs]
      rw [e]
      by_cases hv : v ∈ ys
      · have hc : 0 < ys.countP (fun u => decide (u = v)) := List.countP_pos_iff.2 ⟨v, hv, by simp⟩
        simp [hv]
        omega
      · simp [hv]
        omega
  have h2 : ((xs.filter fun v => !decide (v ∈ ys)) ++ ys).length ≤ m.length := by
    refine len_of_sub ?_ ?_
    · refine List.nodup_append.2 ⟨hx.filter _, hy, ?_⟩
      intro a ha b hb e
      subst e
      have := (List.mem_filter.1 ha).2
      simp [hb] at this
    · intro x h
      rcases List.mem_append.1 h with h | h
      · exact hxm x (List.mem_filter.1 h).1
      · exact hym x h
  rw [List.length_append] at h2
  omega
theorem srcs_nodup {c : Conf} {b : Blk} {x : Cert} (h : checkC c b x = true) : (x.votes.map (·.src)).Nodup := by
  have hr := checkC_rises h
  rw [List.nodup_iff_pairwise_ne, List.pairwise_iff_getElem]
  intro i j hi hj hij
  have hi' : i < x.votes.length := by simpa using hi
  have hj' : j < x.votes.length := by simpa using hj
  have := hr i j hij hj'
  rw [List.getElem_map, List.getElem_map]
  have e1 : x.votes[i]! = x.votes[i] := by simp [hi']
  have e2 : x.votes[j]! = x.votes[j] := by simp [hj']
  rw [e1, e2] at this
  omega
theorem srcs_in {c : Conf} {b : Blk} {x : Cert} (h : checkC c b x = true) : ∀ n ∈ x.votes.map (·.src), n ∈ c.ms.map (·.id) := by
  intro n hn
  obtain ⟨v, hv, rfl⟩ := List.mem_map.1 hn
  obtain ⟨j, hj, rfl⟩ := List.getElem_of_mem hv
  have hr := (voteOk_parts ((checkC_parts h).2.2.2.2 j hj)).2.2.2.2.2
  have e1 : x.votes[j]! = x.votes[j] := by simp [hj]
  rw [e1] at hr
  by_cases hm : (x.votes[j]).src ∈ c.ms.map (·.id)
  · exact hm
  · have hi : idxOf c.ms (x.votes[j]).src = -1 := idxOf_miss fun k hk e => hm (List.mem_map.2 ⟨c.ms[k], List.getElem_mem hk, e⟩)
    rw [rightV_none hi] at hr
    cases hr
theorem agree {c : Conf} {a b : Blk} {x y : Cert} (hx : checkC c a x = true) (hy : checkC c b y = true) : faults c.ms.length + 1 ≤ pairs (x.votes.map (·.src)) (y.votes.map (·.src)) := by
  have h := pairs_ge (srcs_nodup hx) (srcs_nodup hy) (srcs_in hx) (srcs_in hy)
  have h1 := (checkC_parts hx).2.2.2.1
  have h2 := (checkC_parts hy).2.2.2.1
  simp only [List.length_map] at h
  unfold quorum at h1 h2
  omega
/-- Counting, pair by pair. -/
theorem pairs_take (xs ys : List Int) {i : Nat} (h : i < xs.length) : pairs (xs.take (i + 1)) ys = pairs (xs.take i) ys + ys.countP (fun u => decide (u = xs[i])) := by
  unfold pairs
  rw [← List.take_append_getElem h, List.map_append, List.sum_append]
  simp
theorem count_take (v : Int) (ys : List Int) {j : Nat} (h : j < ys.length) : (ys.take (j + 1)).countP (fun u => decide (u = v)) = (ys.take j).countP (fun u => decide (u = v)) + (if ys[j] = v then 1 else 0) := by
  rw [← List.take_append_getElem h, List.countP_append]
  by_cases e : ys[j] = v <;> simp [e]
theorem pairs_le (xs ys : List Int) : pairs xs ys ≤ xs.length * ys.length := by
  induction xs with
  | nil => simp [pairs]
  | cons v xs ih =>
    have e : pairs (v :: xs) ys = ys.countP (fun u => decide (u = v)) + pairs xs ys := by simp [pairs]
    have := List.countP_le_length (p := fun u => decide (u = v)) (l := ys)
    rw [e, List.length_cons, Nat.add_mul]
    omega
end Go.Proofs.YtjlmpdbagmdbiaaDoor.WL

end
section
/-
  CHAPTER 14: walks of laws: one block a round.
-/
namespace Go.Proofs.YtjlmpdbagmdbiaaDoor.WL
open Go
set_option maxHeartbeats 8000000
variable {G : Nat → Option AV}
attribute [local irreducible] sha comp hb checkK idxOf Vote.signs Vote.good rightV Conf.good Blk.good Blk.dg quorum checkC faults pairs

theorem certAgrees_walk (c : Conf) (a : Blk) (x : Cert) (b : Blk) (y : Cert) (hm : ∀ m ∈ c.ms, W64 m.height) (hv : ∀ v ∈ x.votes, W64 v.sig.leaf) (hv2 : ∀ v ∈ y.votes, W64 v.sig.leaf)
    (hf : ∀ q ∈ a.qs, q.key.length ≤ reachBytes ∧ q.val.length ≤ reachBytes ∧ q.old.length ≤ reachBytes) (hf2 : ∀ q ∈ b.qs, q.key.length ≤ reachBytes ∧ q.val.length ≤ reachBytes ∧ q.old.length ≤ reachBytes) :
    Meets Tryd.prog Gt fn_l14_CertAgrees [c.av, a.avS, x.av, b.avS, y.av] [] true (.v (.bool true)) [] := by
  refine meets_of_go mix k_l14_CertAgrees ⟨by simp, by simp, by simp⟩ ?_
  have m1 := great14_meets (G := Gt) c a x hf
  have m2 := great14_meets (G := Gt) c b y hf2
  cases hg1 : greatC c a x
  case true =>
    rw [hg1] at m1
    simp [Conf.av, Blk.avS, Cert.av, dv]
    refine call_intro alive14_meets ?_ ?_
    · simp
    simp
    refine call_intro m1 ?_ ?_
    · simp [Conf.av, Blk.avS, Cert.av, dv]
    simp
    refine post_end (.inr rfl) ?_
    simp
  rw [hg1] at m1
  cases hg2 : greatC c b y
  case true =>
    rw [hg2] at m2
    simp [Conf.av, Blk.avS, Cert.av, dv]
    refine call_intro alive14_meets ?_ ?_
    · simp
    simp
    refine call_intro m1 ?_ ?_
    · simp [Conf.av, Blk.avS, Cert.av, dv]
    simp
    refine call_intro m2 ?_ ?_
    · simp [Conf.av, Blk.avS, Cert.av, dv]
    simp
    refine post_end (.inr rfl) ?_
    simp
  rw [hg2] at m2
  obtain ⟨g1, g2, g3, g4, _⟩ := greatC_no hg1
  obtain ⟨_, k2, k3, k4, _⟩ := greatC_no hg2
  by_cases c1 : a.height = b.height
  case neg =>
    simp [Conf.av, Blk.avS, Cert.av, dv]
    refine call_intro alive14_meets ?_ ?_
    · simp
    simp
    refine call_intro m1 ?_ ?_
    · simp [Conf.av, Blk.avS, Cert.av, dv]
    simp
    refine call_intro m2 ?_ ?_
    · simp [Conf.av, Blk.avS, Cert.av, dv]
    simp [c1]
    refine post_end (.inr rfl) ?_
    simp
  have e1 := eq_true c1
  by_cases c2 : x.round = y.round
  case neg =>
    simp [Conf.av, Blk.avS, Cert.av, dv]
    refine call_intro alive14_meets ?_ ?_
    · simp
    simp
    refine call_intro m1 ?_ ?_
    · simp [Conf.av, Blk.avS, Cert.av, dv]
    simp
    refine call_intro m2 ?_ ?_
    · simp [Conf.av, Blk.avS, Cert.av, dv]
    simp [e1, c2]
    refine post_end (.inr rfl) ?_
    simp
  have e2 := eq_true c2
  have m3 := ccheck_meets c a x (by omega) hm hv (by omega) (by omega) (by omega)
  have m4 := ccheck_meets c b y (by omega) hm hv2 (by omega) (by omega) (by omega)
  cases h1 : checkC c a x
  case false =>
    rw [h1] at m3
    simp [Conf.av, Blk.avS, Cert.av, dv]
    refine call_intro alive14_meets ?_ ?_
    · simp
    simp
    refine call_intro m1 ?_ ?_
    · simp [Conf.av, Blk.avS, Cert.av, dv]
    simp
    refine call_intro m2 ?_ ?_
    · simp [Conf.av, Blk.avS, Cert.av, dv]
    simp [e1, e2]
    refine call_intro m3 ?_ ?_
    · simp [Conf.av, Blk.avS, Cert.av, dv]
    simp
    refine post_end (.inr rfl) ?_
    simp
  rw [h1] at m3
  cases h2 : checkC c b y
  case false =>
    rw [h2] at m4
    simp [Conf.av, Blk.avS, Cert.av, dv]
    refine call_intro alive14_meets ?_ ?_
    · simp
    simp
    refine call_intro m1 ?_ ?_
    · simp [Conf.av, Blk.avS, Cert.av, dv]
    simp
    refine call_intro m2 ?_ ?_
    · simp [Conf.av, Blk.avS, Cert.av, dv]
    simp [e1, e2]
    refine call_intro m3 ?_ ?_
    · simp [Conf.av, Blk.avS, Cert.av, dv]
    simp
    refine call_intro m4 ?_ ?_
    · simp [Conf.av, Blk.avS, Cert.av, dv]
    simp
    refine post_end (.inr rfl) ?_
    simp
  rw [h2] at m4
  have hag := agree h1 h2
  have m5 := cweak_meets (G := Gt) c (by omega)
  clear h1 h2
  generalize hxs : x.votes = xs at *
  generalize hys : y.votes = ys at *
  obtain ⟨P, hP⟩ : ∃ P : Nat → Nat, ∀ j, P j = pairs ((xs.map (·.src)).take j) (ys.map (·.src)) := ⟨_, fun _ => rfl⟩
  have hP0 : P 0 = 0 := by rw [hP]; simp [pairs]
  have hPn : P xs.length = pairs (xs.map (·.src)) (ys.map (·.src)) := by rw [hP, List.take_of_length_le (by simp)]
  have hPb : ∀ j, P j ≤ 144 := fun j => by
    rw [hP]
    have hA : ((xs.map (·.src)).take j).length ≤ 12 := by simp only [List.length_take, List.length_map]; omega
    have hB : (ys.map (·.src)).length ≤ 12 := by simp only [List.length_map]; omega
    exact Nat.le_trans (pairs_le _ _) (Nat.le_trans (Nat.mul_le_mul hA hB) (by omega))
  rw [← hPn] at hag
  generalize faults c.ms.length + 1 = w at *
  simp [Conf.av, Blk.avS, Cert.av, dv, hxs, hys]
  refine call_intro alive14_meets ?_ ?_
  · simp
  simp
  refine call_intro m1 ?_ ?_
  · simp [Conf.av, Blk.avS, Cert.av, dv, hxs, hys]
  simp
  refine call_intro m2 ?_ ?_
  · simp [Conf.av, Blk.avS, Cert.av, dv, hxs, hys]
  simp [e1, e2]
  refine call_intro m3 ?_ ?_
  · simp [Conf.av, Blk.avS, Cert.av, dv, hxs, hys]
  simp
  refine call_intro m4 ?_ ?_
  · simp [Conf.av, Blk.avS, Cert.av, dv, hxs, hys]
  simp
  refine go_up xs.length (fun j (_ : Unit) => True) (fun j (_ : Unit) q => ⟨[(5, .ptr 5 q 0), (9, .ptr 9 q 0), (11, .v (.int .i64 (P j : Nat))), (57, .sl 41 (Votes xs)), (58, .v (.int .i64 (xs.length : Nat))), (59, .v (.int .i64 (j : Nat)))],
    [(5, .var q (.node [.v (.int .i64 c.epoch), .sl 34 (Mems c.ms)])), (9, .var q (.node [.v (.int .i64 y.round), .sl 41 (Votes ys)]))], q + 1⟩) () _ (Weak.re (by simp [hP0])) trivial ?_ ?_
  · intro j _ q hj _
    have hw : IntKind.i64.wrap ((j : Int) + 1) = ((j + 1 : Nat) : Int) := w64_succ (by omega)
    obtain ⟨v, hv'⟩ : ∃ v, xs[j] = v := ⟨_, rfl⟩
    obtain ⟨K, hK⟩ : ∃ K : Nat → Nat, ∀ i, K i = ((ys.map (·.src)).take i).countP (fun u => decide (u = v.src)) := ⟨_, fun _ => rfl⟩
    have hK0 : K 0 = 0 := by rw [hK]; simp
    have hKs : ∀ i (h : i < ys.length), K (i + 1) = K i + (if ys[i].src = v.src then 1 else 0) := fun i h => by
      rw [hK, hK, count_take _ _ (by simpa using h)]
      simp
    have hKb : ∀ i, K i ≤ 12 := fun i => by
      rw [hK]
      refine Nat.le_trans List.countP_le_length ?_
      simp only [List.length_take, List.length_map]
      omega
    have hPs : P (j + 1) = P j + K ys.length := by
      rw [hP, hP, pairs_take _ _ (by simpa using hj), hK, List.take_of_length_le (l := ys.map (·.src)) (by simp)]
      simp [hv']
    have hpb := hPb j
    simp [hj, hv', Vote.av]
    refine go_up ys.length (fun i (_ : Unit) => True) (fun i (_ : Unit) q => ⟨[(5, .ptr 5 q 0), (9, .ptr 9 q 0), (11, .v (.int .i64 (P j + K i : Nat))), (13, .ptr 13 q 0), (57, .sl 41 (Votes xs)), (58, .v (.int .i64 (xs.length : Nat))), (59, .v (.int .i64 (j : Nat))), (64, .sl 41 (Votes ys)), (65, .v (.int .i64 (ys.length : Nat))), (66, .v (.int .i64 (i : Nat)))],
      [(5, .var q (.node [.v (.int .i64 c.epoch), .sl 34 (Mems c.ms)])), (9, .var q (.node [.v (.int .i64 y.round), .sl 41 (Votes ys)])), (13, .var q v.av)], q + 1⟩) () _ (Weak.re (by simp [hK0, Vote.av])) trivial ?_ ?_
    · intro i _ q hi _
      have hw2 : IntKind.i64.wrap ((i : Int) + 1) = ((i + 1 : Nat) : Int) := w64_succ (by omega)
      have hks := hKs i hi
      have hkb := hKb i
      have hw3 : IntKind.i64.wrap ((P j : Int) + (K i : Nat) + 1) = (P j : Int) + (K i : Nat) + 1 := w64_id (by omega)
      by_cases e : ys[i].src = v.src
      · rw [if_pos e] at hks
        simp [hi, Vote.av, eq_true e, hw2, hw3]
        exact ⟨(), _, Weak.re (by simp [hks]; try omega), trivial⟩
      · rw [if_neg e] at hks
        simp [hi, Vote.av, e, hw2]
        exact ⟨(), _, Weak.re (by simp [hks]), trivial⟩
    · intro _ q _
      simp [hw]
      exact ⟨(), _, Weak.re (by simp [hPs]), trivial⟩
  · intro _ q _
    have hag' : (w : Int) ≤ (P xs.length : Nat) := by omega
    simp
    refine call_intro m5 ?_ ?_
    · simp [Conf.av]
    simp [hag, hag']
    refine post_end (.inr rfl) ?_
    simp
end Go.Proofs.YtjlmpdbagmdbiaaDoor.WL

end
section
/-
  CHAPTER 15: one link.
-/
namespace Go.Proofs.YtjlmpdbagmdbiaaDoor.WL
open Go
set_option maxHeartbeats 8000000
variable {G : Nat → Option AV}

def stepK (c : Conf) (h : Int) (l : Lnk) : Int :=
  if l.blk.height ≤ h ∨ l.conf.good = false ∨ l.conf.epoch ≤ c.epoch then 12
  else if checkC c l.blk l.cert = false then 10
  else if l.conf.dg = l.blk.next then 0 else 13
structure Lnk.Tame (c : Conf) (l : Lnk) : Prop where
  cms : c.ms.length ≤ 1000
  lms : l.conf.ms.length ≤ 1000
  heights : ∀ m ∈ c.ms, W64 m.height
  leaves : ∀ v ∈ l.cert.votes, W64 v.sig.leaf
  votes : l.cert.votes.length ≤ 1000000
  bytes : l.blk.bytes.length ≤ 40000000
  qs : l.blk.qs.length ≤ 1000000
attribute [local irreducible] sha comp hb checkK idxOf Vote.signs Vote.good rightV Conf.good Blk.good Blk.dg quorum checkC Conf.dg

theorem step_meets (c : Conf) (h : Int) (l : Lnk) (ht : l.Tame c) : Meets Tryd.prog Gt fn_chain_Step [c.av, .v (.int .i64 h), l.av] [] true (.v (.int .i64 (stepK c h l))) [] := by
  refine meets_of_go mix k_chain_Step ⟨by simp, by simp, by simp⟩ ?_
  have m1 := cgood_meets (G := Gt) l.conf
  have m2 := ccheck_meets c l.blk l.cert (by have := ht.cms; omega) ht.heights ht.leaves ht.votes (by have := ht.bytes; omega) ht.qs
  have m3 := cdigest_meets l.conf ht.lms
  unfold stepK
  by_cases c1 : l.blk.height ≤ h
  · simp [Conf.av, Lnk.av, Blk.avS, dv, c1]
    refine post_end (.inr rfl) ?_
    simp
  cases h2 : l.conf.good
  · rw [h2] at m1
    simp [Conf.av, Lnk.av, Blk.avS, dv, c1]
    refine call_intro m1 ?_ ?_
    · simp [Conf.av]
    simp
    refine post_end (.inr rfl) ?_
    simp
  rw [h2] at m1
  by_cases c3 : l.conf.epoch ≤ c.epoch
  · simp [Conf.av, Lnk.av, Blk.avS, dv, c1]
    refine call_intro m1 ?_ ?_
    · simp [Conf.av]
    simp [c3]
    refine post_end (.inr rfl) ?_
    simp
  cases h4 : checkC c l.blk l.cert
  · rw [h4] at m2
    simp [Conf.av, Lnk.av, Blk.avS, dv, c1]
    refine call_intro m1 ?_ ?_
    · simp [Conf.av]
    simp [c3]
    refine call_intro m2 ?_ ?_
    · simp [Conf.av, Blk.avS, dv]
    simp
    refine post_end (.inr rfl) ?_
    simp
  rw [h4] at m2
  generalize l.conf.dg = d at *
  by_cases c5 : d = l.blk.next
  · simp [Conf.av, Lnk.av, Blk.avS, dv, c1]
    refine call_intro m1 ?_ ?_
    · simp [Conf.av]
    simp [c3]
    refine call_intro m2 ?_ ?_
    · simp [Conf.av, Blk.avS, dv]
    simp
    refine call_intro m3 ?_ ?_
    · simp [Conf.av]
    simp [dv, eq_true c5]
    refine post_end (.inr rfl) ?_
    simp [c5]
  · simp [Conf.av, Lnk.av, Blk.avS, dv, c1]
    refine call_intro m1 ?_ ?_
    · simp [Conf.av]
    simp [c3]
    refine call_intro m2 ?_ ?_
    · simp [Conf.av, Blk.avS, dv]
    simp
    refine call_intro m3 ?_ ?_
    · simp [Conf.av]
    simp [dv, c5]
    refine post_end (.inr rfl) ?_
    simp [c5]
theorem rstep_meets (c : Conf) (h : Int) (l : Lnk) (ht : l.Tame c) : Meets Tryd.prog Gt fn_r15_Step [c.av, .v (.int .i64 h), l.av] [] true (.v (.int .i64 (stepK c h l))) [] := by
  refine meets_of_go mix k_r15_Step ⟨by simp, by simp, by simp⟩ ?_
  have m1 := rgood08_meets (G := Gt) l.conf
  have m2 := rccheck_meets c l.blk l.cert (by have := ht.cms; omega) ht.heights ht.leaves ht.votes ht.bytes ht.qs
  have m3 := rcdigest_meets l.conf (by have := ht.lms; omega)
  unfold stepK
  by_cases c1 : l.blk.height ≤ h
  · simp [Conf.av, Lnk.av, Blk.avS, dv, c1]
    refine post_end (.inr rfl) ?_
    simp
  cases h2 : l.conf.good
  · rw [h2] at m1
    simp [Conf.av, Lnk.av, Blk.avS, dv, c1]
    refine call_intro m1 ?_ ?_
    · simp [Conf.av]
    simp
    refine post_end (.inr rfl) ?_
    simp
  rw [h2] at m1
  by_cases c3 : l.conf.epoch ≤ c.epoch
  · simp [Conf.av, Lnk.av, Blk.avS, dv, c1]
    refine call_intro m1 ?_ ?_
    · simp [Conf.av]
    simp [c3]
    refine post_end (.inr rfl) ?_
    simp
  cases h4 : checkC c l.blk l.cert
  · rw [h4] at m2
    simp [Conf.av, Lnk.av, Blk.avS, dv, c1]
    refine call_intro m1 ?_ ?_
    · simp [Conf.av]
    simp [c3]
    refine call_intro m2 ?_ ?_
    · simp [Conf.av, Blk.avS, dv]
    simp
    refine post_end (.inr rfl) ?_
    simp
  rw [h4] at m2
  generalize l.conf.dg = d at *
  by_cases c5 : d = l.blk.next
  · simp [Conf.av, Lnk.av, Blk.avS, dv, c1]
    refine call_intro m1 ?_ ?_
    · simp [Conf.av]
    simp [c3]
    refine call_intro m2 ?_ ?_
    · simp [Conf.av, Blk.avS, dv]
    simp
    refine call_intro m3 ?_ ?_
    · simp [Conf.av]
    simp [dv, eq_true c5]
    refine post_end (.inr rfl) ?_
    simp [c5]
  · simp [Conf.av, Lnk.av, Blk.avS, dv, c1]
    refine call_intro m1 ?_ ?_
    · simp [Conf.av]
    simp [c3]
    refine call_intro m2 ?_ ?_
    · simp [Conf.av, Blk.avS, dv]
    simp
    refine call_intro m3 ?_ ?_
    · simp [Conf.av]
    simp [dv, c5]
    refine post_end (.inr rfl) ?_
    simp [c5]
end Go.Proofs.YtjlmpdbagmdbiaaDoor.WL

end
section
/-
  CHAPTER 15: a chain.
-/
namespace Go.Proofs.YtjlmpdbagmdbiaaDoor.WL
open Go
set_option maxHeartbeats 8000000
variable {G : Nat → Option AV}

instance : Inhabited Lnk := ⟨Lnk.zero⟩
/-- Along the links: the last configuration, how many lead, what is wrong. -/
def runK : Conf → Int → List Lnk → Nat → Conf × Nat × Int
  | c, _, [], i => (c, i, 0)
  | c, h, l :: ls, i => if stepK c h l = 0 then runK l.conf l.blk.height ls (i + 1) else (Conf.zero, i, stepK c h l)
def checkL (c : Conf) (ls : List Lnk) : Conf × Nat × Int := if c.good = false then (Conf.zero, 0, 1) else if 1024 < ls.length then (Conf.zero, 0, 11) else runK c 0 ls 0
def chAv (r : Conf × Nat × Int) : AV := .tup [r.1.av, .v (.int .i64 (r.2.1 : Nat)), .v (.int .i64 r.2.2)]
structure Tames (c : Conf) (ls : List Lnk) : Prop where
  few : ls.length ≤ 1000
  cms : c.ms.length ≤ 1000
  heights : ∀ m ∈ c.ms, W64 m.height
  links : ∀ l ∈ ls, l.conf.ms.length ≤ 1000 ∧ (∀ m ∈ l.conf.ms, W64 m.height) ∧ (∀ v ∈ l.cert.votes, W64 v.sig.leaf) ∧ l.cert.votes.length ≤ 1000000 ∧ l.blk.bytes.length ≤ 40000000 ∧ l.blk.qs.length ≤ 1000000
def Conf.calm (c : Conf) : Prop := c.ms.length ≤ 1000 ∧ ∀ m ∈ c.ms, W64 m.height
theorem Tames.tame {c d : Conf} {ls : List Lnk} {l : Lnk} (h : Tames c ls) (hl : l ∈ ls) (hd : d.calm) : l.Tame d := by
  obtain ⟨h1, h2, h3, h4, h5, h6⟩ := h.links l hl
  exact ⟨hd.1, h1, hd.2, h3, h4, h5, h6⟩
theorem Tames.calm {c : Conf} {ls : List Lnk} {l : Lnk} (h : Tames c ls) (hl : l ∈ ls) : l.conf.calm := by
  obtain ⟨h1, h2, _⟩ := h.links l hl
  exact ⟨h1, h2⟩
theorem run_step {c : Conf} {h : Int} {ls : List Lnk} {j : Nat} (hj : j < ls.length) : runK c h (ls.drop j) j = if stepK c h ls[j] = 0 then runK (ls[j]).conf (ls[j]).blk.height (ls.drop (j + 1)) (j + 1) else (Conf.zero, j, stepK c h ls[j]) := by
  rw [List.drop_eq_getElem_cons hj]
  rfl
attribute [local irreducible] sha comp hb checkK idxOf Vote.signs Vote.good rightV Conf.good Blk.good Blk.dg quorum checkC Conf.dg stepK runK

theorem chcheck_meets (c : Conf) (ls : List Lnk) (ht : Tames c ls) : Meets Tryd.prog Gt fn_chain_Check [c.av, .sl 103 (Lnks ls)] [] false (chAv (checkL c ls)) [] := by
  refine meets_of_go mix k_chain_Check ⟨by simp, by simp [chAv], by simp⟩ ?_
  have m1 := cgood_meets (G := Gt) c
  unfold checkL
  cases h1 : c.good
  · rw [h1] at m1
    simp [Conf.av]
    refine call_intro m1 ?_ ?_
    · simp [Conf.av]
    simp
    refine post_end (.inr rfl) ?_
    simp [chAv, Conf.av, Conf.zero]
  rw [h1] at m1
  have hfew := ht.few
  have c2 : ¬ (1024 : Int) < (ls.length : Nat) := by omega
  have c3 : ¬ 1024 < ls.length := by omega
  rw [if_neg (by simp), if_neg c3]
  obtain ⟨res, hres⟩ : ∃ res, runK c 0 ls 0 = res := ⟨_, rfl⟩
  rw [hres]
  simp
  refine call_intro m1 ?_ ?_
  · simp
  simp [c2]
  refine go_up ls.length (fun j (p : Conf × Int) => runK p.1 p.2 (ls.drop j) j = res ∧ p.1.calm) (fun j p q => ⟨[(1, .sl 103 (Lnks ls)), (4, .ptr 4 q 0), (7, .ptr 7 q 0), (8, .v (.int .i64 p.2)), (21, .sl 103 (Lnks ls)), (22, .v (.int .i64 (ls.length : Nat))), (23, .v (.int .i64 (j : Nat)))],
    [(4, .var q (.node [.v (.int .i64 0), .v (.slice none 0 0)])), (7, .var q p.1.av)], q + 1⟩) (c, 0) _ (Weak.re (by simp)) ⟨by simpa using hres, ht.cms, ht.heights⟩ ?_ ?_
  · rintro j ⟨d, h⟩ q hj ⟨hr, hcalm⟩
    have hw : IntKind.i64.wrap ((j : Int) + 1) = ((j + 1 : Nat) : Int) := w64_succ (by omega)
    obtain ⟨l, hl⟩ : ∃ l, ls[j] = l := ⟨_, rfl⟩
    have hmem : l ∈ ls := by rw [← hl]; exact List.getElem_mem hj
    have m2 := step_meets d h l (ht.tame hmem hcalm)
    have hc2 := ht.calm hmem
    dsimp only at hr
    rw [run_step hj, hl] at hr
    generalize stepK d h l = e at *
    simp [hj, hl]
    refine call_intro m2 ?_ ?_
    · simp
    simp [Lnk.av, Blk.avS]
    by_cases he : e = 0
    · rw [if_pos he] at hr
      simp [eq_true he, hw]
      exact ⟨(l.conf, l.blk.height), _, Weak.re (by simp), hr, hc2⟩
    · rw [if_neg he] at hr
      subst hr
      simp [he]
      refine post_end (.inr rfl) ?_
      simp [chAv, Conf.av, Conf.zero]
  · rintro ⟨d, h⟩ q ⟨hr, hcalm⟩
    have hcl : d.ms.length ≤ 1000 := hcalm.1
    have hf : fitsB d.ms.length 48 := fits (by omega) (by omega)
    have hr2 : res = (d, ls.length, 0) := by
      rw [← hr, List.drop_length]
      unfold runK
      rfl
    subst hr2
    simp [Conf.av, hf]
    refine post_end (.inr rfl) ?_
    simp [chAv, Conf.av]
end Go.Proofs.YtjlmpdbagmdbiaaDoor.WL

end
section
/-
  CHAPTER 15: the reference's chain.
-/
namespace Go.Proofs.YtjlmpdbagmdbiaaDoor.WL
open Go
set_option maxHeartbeats 8000000
variable {G : Nat → Option AV}
attribute [local irreducible] sha comp hb checkK idxOf Vote.signs Vote.good rightV Conf.good Blk.good Blk.dg quorum checkC Conf.dg stepK runK

theorem rchcheck_meets (c : Conf) (ls : List Lnk) (ht : Tames c ls) : Meets Tryd.prog Gt fn_r15_Check [c.av, .sl 103 (Lnks ls)] [] false (chAv (checkL c ls)) [] := by
  refine meets_of_go mix k_r15_Check ⟨by simp, by simp [chAv], by simp⟩ ?_
  have m1 := rgood08_meets (G := Gt) c
  unfold checkL
  cases h1 : c.good
  · rw [h1] at m1
    simp [Conf.av]
    refine call_intro m1 ?_ ?_
    · simp [Conf.av]
    simp
    refine post_end (.inr rfl) ?_
    simp [chAv, Conf.av, Conf.zero]
  rw [h1] at m1
  have hfew := ht.few
  have c2 : ¬ (1024 : Int) < (ls.length : Nat) := by omega
  have c3 : ¬ 1024 < ls.length := by omega
  rw [if_neg (by simp), if_neg c3]
  obtain ⟨res, hres⟩ : ∃ res, runK c 0 ls 0 = res := ⟨_, rfl⟩
  rw [hres]
  simp
  refine call_intro m1 ?_ ?_
  · simp
  simp [c2]
  refine go_up ls.length (fun j (p : Conf × Int) => runK p.1 p.2 (ls.drop j) j = res ∧ p.1.calm) (fun j p q => ⟨[(1, .sl 103 (Lnks ls)), (2, .ptr 2 q 0), (4, .ptr 4 q 0), (7, .v (.int .i64 p.2)), (19, .sl 103 (Lnks ls)), (20, .v (.int .i64 (ls.length : Nat))), (21, .v (.int .i64 (j : Nat)))],
    [(2, .var q p.1.av), (4, .var q (.node [.v (.int .i64 0), .v (.slice none 0 0)]))], q + 1⟩) (c, 0) _ (Weak.re (by simp)) ⟨by simpa using hres, ht.cms, ht.heights⟩ ?_ ?_
  · rintro j ⟨d, h⟩ q hj ⟨hr, hcalm⟩
    have hw : IntKind.i64.wrap ((j : Int) + 1) = ((j + 1 : Nat) : Int) := w64_succ (by omega)
    obtain ⟨l, hl⟩ : ∃ l, ls[j] = l := ⟨_, rfl⟩
    have hmem : l ∈ ls := by rw [← hl]; exact List.getElem_mem hj
    have m2 := rstep_meets d h l (ht.tame hmem hcalm)
    have hc2 := ht.calm hmem
    dsimp only at hr
    rw [run_step hj, hl] at hr
    generalize stepK d h l = e at *
    simp [hj, hl]
    refine call_intro m2 ?_ ?_
    · simp
    simp [Lnk.av, Blk.avS]
    by_cases he : e = 0
    · rw [if_pos he] at hr
      simp [eq_true he, hw]
      exact ⟨(l.conf, l.blk.height), _, Weak.re (by simp), hr, hc2⟩
    · rw [if_neg he] at hr
      subst hr
      simp [he]
      refine post_end (.inr rfl) ?_
      simp [chAv, Conf.av, Conf.zero]
  · rintro ⟨d, h⟩ q ⟨hr, hcalm⟩
    have hr2 : res = (d, ls.length, 0) := by
      rw [← hr, List.drop_length]
      unfold runK
      rfl
    subst hr2
    simp [Conf.av]
    refine post_end (.inr rfl) ?_
    simp [chAv, Conf.av]
end Go.Proofs.YtjlmpdbagmdbiaaDoor.WL

end
section
/-
  CHAPTER 15: the laws' first question, and how great an input is.
-/
namespace Go.Proofs.YtjlmpdbagmdbiaaDoor.WL
open Go
set_option maxHeartbeats 8000000
variable {G : Nat → Option AV}

noncomputable def c_alive15 : CCode :=
  .seq (.region c_l15_alive_r0 none []) (.seq (.region c_l15_alive_r1 none [1]) (.ghost (.seq (.region c_l15_alive_r2 none [1, 2, 3, 4]) (.seq (.region c_l15_alive_r3 none [0]) .ret))))
theorem k_alive15 : chkFn Tryd.prog fn_l15_alive c_alive15 R_l15_alive 0 = true := by kernel_rfl
def conf15 : Conf := ⟨0, [⟨1, Dg.zero, 0⟩]⟩
theorem check15 : checkL conf15 [] = (conf15, 0, 0) := by
  have hg : conf15.good = true := by simp [conf15, Conf.good, memOk, Mem.good]
  unfold checkL
  rw [hg]
  rfl
theorem step15 : stepK conf15 0 Lnk.zero = 12 := by
  unfold stepK
  rw [if_pos (.inl (by simp [Lnk.zero, Blk.zero]))]
attribute [local irreducible] sha comp hb checkK idxOf Vote.signs Vote.good rightV Conf.good Blk.good Blk.dg quorum checkC Conf.dg stepK runK checkL

theorem alive15_meets : Meets Tryd.prog Gt fn_l15_alive [] [] true (.v (.bool true)) [] := by
  refine meets_of_awp mix k_alive15 ⟨by simp, by simp, by simp⟩ (awp_go ?_)
  have hz : Blk.zero.bytes.length = 120 := by rw [Blk.bytes_len]; rfl
  have m1 := chcheck_meets conf15 [] ⟨by simp, by simp [conf15], by simp [conf15, W64], by simp⟩
  rw [check15] at m1
  have m2 := step_meets conf15 0 Lnk.zero ⟨by simp [conf15], by simp [Lnk.zero, Conf.zero], by simp [conf15, W64], by simp [Lnk.zero, Cert.zero], by simp [Lnk.zero, Cert.zero], by show Blk.zero.bytes.length ≤ 40000000; omega, by simp [Lnk.zero, Blk.zero]⟩
  rw [step15] at m2
  simp [c_alive15]
  refine go_ghost ⟨[(1, .ptr 1 8 0)], [(1, .var 8 conf15.av)], 9⟩ (Weak.re (by simp [conf15, Conf.av, Mems, Mem.av, dv])) ?_
  simp
  have hl1 : conf15.ms.length = 1 := rfl
  refine call_intro m1 ?_ ?_
  · simp
  simp [chAv, Conf.av, hl1]
  refine call_intro m2 ?_ ?_
  · simp [Lnk.av, Lnk.zero, Blk.avS, Blk.zero, Cert.av, Cert.zero, Conf.av, Conf.zero, dv]
  simp
  refine post_end (.inr rfl) ?_
  simp
def greatL (l : Lnk) : Bool := decide (20 < l.conf.ms.length) || decide (12 < l.cert.votes.length) || l.blk.great 4096 || l.cert.votes.any fun v => v.sig.greatF
def greatN (c : Conf) (ls : List Lnk) : Bool := decide (20 < c.ms.length) || decide (6 < ls.length) || ls.any greatL
theorem great15_meets (c : Conf) (ls : List Lnk) (hf : ∀ l ∈ ls, ∀ q ∈ l.blk.qs, q.key.length ≤ reachBytes ∧ q.val.length ≤ reachBytes ∧ q.old.length ≤ reachBytes) :
    Meets Tryd.prog G fn_l15_great [c.av, .sl 103 (Lnks ls)] [] true (.v (.bool (greatN c ls))) [] := by
  refine meets_of_go mix k_l15_great ⟨by simp, by simp, by simp⟩ ?_
  unfold greatN
  by_cases c1 : (20 : Int) < (c.ms.length : Nat)
  · have d1 : 20 < c.ms.length := by omega
    simp [Conf.av, c1]
    refine post_end (.inr rfl) ?_
    simp [d1]
  have d1 : ¬ 20 < c.ms.length := by omega
  by_cases c2 : (6 : Int) < (ls.length : Nat)
  · have d2 : 6 < ls.length := by omega
    simp [Conf.av, c1, c2]
    refine post_end (.inr rfl) ?_
    simp [d2]
  have d2 : ¬ 6 < ls.length := by omega
  have hres : (decide (20 < c.ms.length) || decide (6 < ls.length) || ls.any greatL) = ls.any greatL := by simp [d1, d2]
  rw [hres]
  obtain ⟨res, hr0⟩ : ∃ res, ls.any greatL = res := ⟨_, rfl⟩
  rw [hr0]
  simp [Conf.av, c1, c2]
  refine go_up ls.length (fun j (_ : Unit) => ∀ i (h : i < ls.length), i < j → greatL ls[i] = false) (fun j (_ : Unit) q => ⟨[(18, .sl 103 (Lnks ls)), (19, .v (.int .i64 (ls.length : Nat))), (20, .v (.int .i64 (j : Nat)))], [], q + 1⟩) () _ (Weak.re (by simp)) (by intro i _ h; omega) ?_ ?_
  · intro j _ q hj hx
    have hw : IntKind.i64.wrap ((j : Int) + 1) = ((j + 1 : Nat) : Int) := w64_succ (by omega)
    obtain ⟨l, hl⟩ : ∃ l, ls[j] = l := ⟨_, rfl⟩
    have hmem : l ∈ ls := by rw [← hl]; exact List.getElem_mem hj
    have hyes : greatL l = true → res = true := fun h => by rw [← hr0]; exact List.any_eq_true.2 ⟨l, hmem, h⟩
    have m1 := bgreat_meets (G := G) l.blk 4096 (by omega) (hf l hmem)
    simp only [Int.cast_ofNat_Int] at m1
    by_cases e1 : (20 : Int) < (l.conf.ms.length : Nat)
    · have hr := hyes (by simp [greatL, show 20 < l.conf.ms.length by omega])
      simp [hj, hl, Lnk.av, Conf.av, Cert.av, Blk.avS, e1]
      refine post_end (.inr rfl) ?_
      simp [hr]
    by_cases e2 : (12 : Int) < (l.cert.votes.length : Nat)
    · have hr := hyes (by simp [greatL, show 12 < l.cert.votes.length by omega])
      simp [hj, hl, Lnk.av, Conf.av, Cert.av, Blk.avS, e1, e2]
      refine post_end (.inr rfl) ?_
      simp [hr]
    cases g : l.blk.great 4096
    case true =>
      rw [g] at m1
      have hr := hyes (by simp [greatL, g])
      simp [hj, hl, Lnk.av, Conf.av, Cert.av, Blk.avS, e1, e2]
      refine call_intro m1 ?_ ?_
      · simp [Blk.avS]
      simp
      refine post_end (.inr rfl) ?_
      simp [hr]
    rw [g] at m1
    have hno : (∀ v ∈ l.cert.votes, v.sig.greatF = false) → greatL l = false := by
      intro h
      have h1 : (l.cert.votes.any fun v => v.sig.greatF) = false := by
        rw [List.any_eq_false]
        intro v hv
        simp [h v hv]
      simp only [greatL, g, h1, Bool.or_false, Bool.or_eq_false_iff, decide_eq_false_iff_not]
      omega
    have hy2 : ∀ v ∈ l.cert.votes, v.sig.greatF = true → res = true := fun v hv h => hyes (by
      have h1 : (l.cert.votes.any fun v => v.sig.greatF) = true := List.any_eq_true.2 ⟨v, hv, h⟩
      simp [greatL, h1])
    have hlen : l.cert.votes.length ≤ 12 := by omega
    generalize hvs : l.cert.votes = vs at *
    simp [hj, hl, Lnk.av, Conf.av, Cert.av, Blk.avS, e1, e2, hvs]
    refine call_intro m1 ?_ ?_
    · simp [Blk.avS]
    simp
    refine go_up vs.length (fun i (_ : Unit) => ∀ k (h : k < vs.length), k < i → vs[k].sig.greatF = false) (fun i (_ : Unit) q => ⟨[(18, .sl 103 (Lnks ls)), (19, .v (.int .i64 (ls.length : Nat))), (20, .v (.int .i64 (j : Nat))), (43, .sl 41 (Votes vs)), (44, .v (.int .i64 (vs.length : Nat))), (45, .v (.int .i64 (i : Nat)))], [], q + 1⟩) () _ (Weak.re (by simp)) (by intro i _ h; omega) ?_ ?_
    · intro i _ q hi hx2
      have hw2 : IntKind.i64.wrap ((i : Int) + 1) = ((i + 1 : Nat) : Int) := w64_succ (by omega)
      obtain ⟨v, hv⟩ : ∃ v, vs[i] = v := ⟨_, rfl⟩
      have hyv := hy2 v (by rw [← hv]; exact List.getElem_mem hi)
      by_cases a1 : (200 : Int) < (v.sig.op.length : Nat)
      · have hr := hyv (by simp [Sig.greatF, show 200 < v.sig.op.length by omega])
        simp [hi, hv, Vote.av, Sig.avS, a1]
        refine post_end (.inr rfl) ?_
        simp [hr]
      by_cases a2 : (200 : Int) < (v.sig.sh.length : Nat)
      · have hr := hyv (by simp [Sig.greatF, show 200 < v.sig.sh.length by omega])
        simp [hi, hv, Vote.av, Sig.avS, a1, a2]
        refine post_end (.inr rfl) ?_
        simp [hr]
      by_cases a3 : (200 : Int) < (v.sig.path.length : Nat)
      · have hr := hyv (by simp [Sig.greatF, show 200 < v.sig.path.length by omega])
        simp [hi, hv, Vote.av, Sig.avS, a1, a2, a3]
        refine post_end (.inr rfl) ?_
        simp [hr]
      have hnv : v.sig.greatF = false := by simp [Sig.greatF]; omega
      simp [hi, hv, Vote.av, Sig.avS, a1, a2, a3, hw2]
      refine ⟨(), _, Weak.re (by simp), ?_⟩
      intro k hk hki
      rcases (show k < i ∨ k = i by omega) with h1 | rfl
      · exact hx2 k hk h1
      · rw [hv]; exact hnv
    · intro _ q hx2
      have hgl := hno (fun v hv => by
        obtain ⟨k, hk, rfl⟩ := List.getElem_of_mem hv
        exact hx2 k hk hk)
      simp [hw]
      refine ⟨(), _, Weak.re (by simp), ?_⟩
      intro i hi hij
      rcases (show i < j ∨ i = j by omega) with h1 | rfl
      · exact hx i hi h1
      · rw [hl]; exact hgl
  · intro _ q hx
    have hr : res = false := by
      rw [← hr0, List.any_eq_false]
      intro l hl
      obtain ⟨i, hi, rfl⟩ := List.getElem_of_mem hl
      simp [hx i hi hi]
    simp
    refine post_end (.inr rfl) ?_
    simp [hr]
theorem greatN_no {c : Conf} {ls : List Lnk} (h : greatN c ls = false) : c.ms.length ≤ 20 ∧ ls.length ≤ 6 ∧ ∀ l ∈ ls, l.conf.ms.length ≤ 20 ∧ l.cert.votes.length ≤ 12 ∧ l.blk.bytes.length ≤ 5000 ∧ l.blk.qs.length ≤ 40 ∧ ∀ v ∈ l.cert.votes, v.sig.greatF = false := by
  simp only [greatN, Bool.or_eq_false_iff, decide_eq_false_iff_not, List.any_eq_false] at h
  refine ⟨by omega, by omega, fun l hl => ?_⟩
  have h1 := h.2 l hl
  simp only [greatL, Bool.not_eq_true, Bool.or_eq_false_iff, decide_eq_false_iff_not, List.any_eq_false] at h1
  have h2 := great_no h1.1.2
  rw [Blk.bytes_len]
  exact ⟨by omega, by omega, by omega, by omega, fun v hv => by simpa using h1.2 v hv⟩
end Go.Proofs.YtjlmpdbagmdbiaaDoor.WL

end
