/- Texts put together: S05c, S14e, S14h, S14i, S14j, S14k, S14f. -/
import Derived.Test.YtjlmpdbagmdbiaaDoorWm11
section
/-
  CHAPTER 05: contracts of the reference.
-/
namespace Go.Proofs.YtjlmpdbagmdbiaaDoor.WL
open Go
set_option maxHeartbeats 4000000
attribute [local irreducible] comp hb sha leafD pairD secD shutD wholeD pubD ofD

theorem rof4_bad (d : Dg) (o s : List Dg) (h : ¬ (o.length = 32 ∧ s.length = 32)) : Meets Tryd.prog Gt fn_r04_Of [dv d, .node [.sl 32 (Dgs o), .sl 32 (Dgs s)]] [] true (.tup [dv Dg.zero, .v (.bool false)]) [] := by
  refine meets_of_go mix k_r04_Of ⟨by simp, by simp, by simp⟩ ?_
  by_cases h1 : o.length = 32
  · have h2 : ¬ s.length = 32 := fun e => h ⟨h1, e⟩
    have h3 : ¬ (s.length : Int) = 32 := by omega
    simp [h1, h2, h3]
    refine post_end (.inr rfl) ?_
    simp
  · have h3 : ¬ (o.length : Int) = 32 := by omega
    simp [h1, h3]
    refine post_end (.inr rfl) ?_
    simp

theorem flatD_app (a b : List Dg) : flatD (a ++ b) = flatD a ++ flatD b := by simp [flatD]
theorem rof4_meets (d : Dg) (o s : List Dg) (N : Nat) (hN : N = 32) (ho : o.length = N) (hs : s.length = N) : Meets Tryd.prog Gt fn_r04_Of [dv d, .node [.sl 32 (Dgs o), .sl 32 (Dgs s)]] [] true (.tup [dv (ofD d o s N), .v (.bool true)]) [] := by
  refine meets_of_go mix k_r04_Of ⟨by simp, by simp, by simp⟩ ?_
  have ho32 : o.length = 32 := by omega
  have hs32 : s.length = 32 := by omega
  simp [ho32, hs32]
  refine go_up N (fun j (x : Bytes) => x = flatD (ofL d o s j)) (fun j x c => ⟨[(2, .ptr 2 c 0), (3, .ptr 3 c 0), (4, .ptr 4 c 0), (6, .v (.string (mkS x))), (7, .v (.int .i64 (j : Nat)))],
    [(2, .var c (dv d)), (3, .var c (.node [.sl 32 (Dgs o), .sl 32 (Dgs s)])), (4, .var c (dv Dg.zero))], c + 1⟩) [] _ (Weak.re (by simp)) (by simp [ofL, flatD]) ?_ ?_
  · intro j x c hj hx
    have hw : IntKind.i64.wrap ((j : Int) + 1) = ((j + 1 : Nat) : Int) := w64_succ (by omega)
    have hj8 : (j : Int) < 32 := by omega
    have hxl : x.length = 64 * j := by rw [hx, flatD_length, ofL_length]; omega
    have f1 : fitsS (x.length + 32) := fitS (by omega)
    have f2 : fitsS (x.length + 32 + 32) := fitS (by omega)
    have hbt := rbit_meets (G := Gt) d j (by omega)
    have hle := bitD_le d j
    have hjo : j < o.length := by omega
    have hjs : j < s.length := by omega
    have hnx : x ++ flatD (two (bitD d j) (shutD o[j]) s[j]) = flatD (ofL d o s (j + 1)) := by
      have e1 : o.getD j Dg.zero = o[j] := by rw [List.getD_eq_getElem?_getD, List.getElem?_eq_getElem hjo]; rfl
      have e2 : s.getD j Dg.zero = s[j] := by rw [List.getD_eq_getElem?_getD, List.getElem?_eq_getElem hjs]; rfl
      rw [hx, ← e1, ← e2, ← flatD_app]
      rfl
    generalize bitD d j = b at *
    have t1 := rshut_meets o[j]
    generalize shutD o[j] = a at *
    obtain ⟨z, hz⟩ : ∃ z, s[j] = z := ⟨_, rfl⟩
    rw [hz] at hnx
    have d1 := rfdigest_meets (G := Gt) a
    have d2 := rfdigest_meets (G := Gt) z
    have e2 : ∀ p q : Dg, flatD [p, q] = p.bs ++ q.bs := fun p q => by simp [flatD]
    rcases hle with rfl | rfl
    · rw [two, if_pos rfl, e2] at hnx
      simp [hj8, hjo, hjs, hz]
      refine call_intro t1 ?_ ?_
      · simp
      simp [hjo, hjs, hz]
      refine call_intro d1 ?_ ?_
      · simp
      simp [hjo, hjs, hz]
      refine call_intro d2 ?_ ?_
      · simp
      simp
      refine call_intro hbt ?_ ?_
      · simp
      simp [f1, f2, hw]
      exact ⟨x ++ (a.bs ++ z.bs), _, Weak.re (by simp), hnx⟩
    · rw [two, if_neg (by omega), e2] at hnx
      simp [hj8, hjo, hjs, hz]
      refine call_intro t1 ?_ ?_
      · simp
      simp [hjo, hjs, hz]
      refine call_intro d1 ?_ ?_
      · simp
      simp [hjo, hjs, hz]
      refine call_intro d2 ?_ ?_
      · simp
      simp
      refine call_intro hbt ?_ ?_
      · simp
      simp [f1, f2, hw]
      exact ⟨x ++ (z.bs ++ a.bs), _, Weak.re (by simp), hnx⟩
  · intro x c hx
    have hxl : x.length = 64 * N := by rw [hx, flatD_length, ofL_length]; omega
    have htx := rtext02_meets x (by omega)
    have hp : sha x = ofD d o s N := by rw [hx]; unfold ofD wholeD; rfl
    rw [hp] at htx
    generalize ofD d o s N = y at *
    subst hN
    simp
    refine call_intro htx ?_ ?_
    · simp
    simp
    refine post_end (.inr rfl) ?_
    simp

theorem rkcheck_meets (root : Dg) (h : Int) (d : Dg) (s : Sig) (hh : -9223372036854775808 ≤ h ∧ h < 9223372036854775808) (hl : -9223372036854775808 ≤ s.leaf ∧ s.leaf < 9223372036854775808) :
    Meets Tryd.prog Gt fn_r05_Check [.node [dv root, .v (.int .i64 h)], dv d, s.avS] [] true (.v (.bool (checkK root h d s))) [] := by
  refine meets_of_go mix k_r05_Check ⟨by simp, by simp, by simp⟩ ?_
  unfold checkK
  by_cases h1 : s.op.length = 32 ∧ s.sh.length = 32
  · have m1 := rof4_meets d s.op s.sh 32 rfl h1.1 h1.2
    generalize ofD d s.op s.sh 32 = y at *
    have m2 := rfdigest_meets (G := Gt) y
    have m3 := rleaf_meets y.bs (by simp)
    have e : leafD y.bs = leafK y := by unfold leafK; rfl
    rw [e] at m3
    generalize leafK y = z at *
    by_cases h2 : h < 0
    · have h2' : ¬ 0 ≤ h := by omega
      simp [Sig.avS]
      refine call_intro m1 ?_ ?_
      · simp
      simp [h2]
      refine post_end (.inr rfl) ?_
      simp [h2']
    by_cases h3 : 6 < h
    · have h3' : ¬ h ≤ 6 := by omega
      simp [Sig.avS]
      refine call_intro m1 ?_ ?_
      · simp
      simp [h2, h3]
      refine post_end (.inr rfl) ?_
      simp [h3']
    by_cases h4 : s.leaf < 0
    · have h4' : ¬ 0 ≤ s.leaf := by omega
      simp [Sig.avS]
      refine call_intro m1 ?_ ?_
      · simp
      simp [h2, h3, h4]
      refine post_end (.inr rfl) ?_
      simp [h4']
    obtain ⟨n, rfl⟩ : ∃ n : Nat, h = n := ⟨h.toNat, by omega⟩
    have hmin : min n 64 = n := by omega
    have hn6 : n ≤ 6 := by omega
    obtain ⟨q, hq⟩ : ∃ q : Nat, q = 2 ^ n := ⟨_, rfl⟩
    have hq64 : q ≤ 64 := by rw [hq]; exact Nat.le_trans (Nat.pow_le_pow_right (by omega) hn6) (by decide)
    have hqi : ((2 : Int) ^ n) = (q : Int) := by rw [hq]; simp
    have w0 : IntKind.u64.wrap (n : Int) = (n : Int) := u64_id (by omega)
    have w1 : IntKind.i64.wrap (q : Int) = (q : Int) := w64_id (by omega)
    obtain ⟨i, hi⟩ : ∃ i : Nat, s.leaf = i := ⟨s.leaf.toNat, by omega⟩
    have h4i : ¬ (i : Int) < 0 := by omega
    have h3n : ¬ 6 < n := by omega
    rw [Int.toNat_natCast, ← hq, hi, Int.toNat_natCast]
    by_cases h5 : (q : Int) ≤ (i : Int)
    · have h5' : ¬ (i : Int) < (q : Int) := by omega
      have h5n : q ≤ i := by omega
      have h5n' : ¬ i < q := by omega
      simp [Sig.avS, hi]
      refine call_intro m1 ?_ ?_
      · simp
      simp [h2, h3, h3n, h4i, w0, hmin, hqi, w1, h5, h5n]
      refine post_end (.inr rfl) ?_
      simp [h5n']
    · have h5n : ¬ q ≤ i := by omega
      have h5n' : i < q := by omega
      have m4 := rcheck_meets root q z i q s.path (Nat.le_refl _) h5n' (by omega)
      generalize checkD root z i q s.path = e at *
      simp [Sig.avS, hi]
      refine call_intro m1 ?_ ?_
      · simp
      simp [h2, h3, h3n, h4i, w0, hmin, hqi, w1, h5, h5n]
      refine call_intro m2 ?_ ?_
      · simp
      simp
      refine call_intro m3 ?_ ?_
      · simp
      simp
      refine call_intro m4 ?_ ?_
      · simp
      simp
      refine post_end (.inr rfl) ?_
      have h3' : (n : Int) ≤ 6 := by omega
      simp [h1, h5n', hn6, h3']
  · have m1 := rof4_bad d s.op s.sh h1
    simp [Sig.avS]
    refine call_intro m1 ?_ ?_
    · simp
    simp
    refine post_end (.inr rfl) ?_
    simp [h1]

def Sig.same (a b : Sig) : Bool := decide (a.leaf = b.leaf) && (decide (a.op = b.op) && decide (a.sh = b.sh)) && decide (a.path = b.path)
theorem rksame_meets {G : Nat → Option AV} (a b : Sig) (h1 : a.op.length ≤ 1000000000) (h2 : a.sh.length ≤ 1000000000) (h3 : a.path.length ≤ 1000000000) : Meets Tryd.prog G fn_r05_Same [a.avS, b.avS] [] true (.v (.bool (a.same b))) [] := by
  refine meets_of_go mix k_r05_Same ⟨by simp, by simp, by simp⟩ ?_
  have m1 := rsame4_meets (G := G) a.op a.sh b.op b.sh h1 h2
  have m2 := rsame_meets (G := G) a.path b.path h3
  unfold Sig.same
  by_cases c1 : a.leaf = b.leaf
  · simp [Sig.avS, c1]
    refine call_intro m1 ?_ ?_
    · simp
    by_cases c2 : a.op = b.op ∧ a.sh = b.sh
    · simp [c2]
      refine call_intro m2 ?_ ?_
      · simp
      simp
      refine post_end (.inr rfl) ?_
      simp
    · have c3 : (decide (a.op = b.op) && decide (a.sh = b.sh)) = false := by
        rw [Bool.and_eq_false_iff, decide_eq_false_iff_not, decide_eq_false_iff_not]
        by_cases e : a.op = b.op
        · exact .inr fun h => c2 ⟨e, h⟩
        · exact .inl e
      simp only [c3]
      simp
      refine post_end (.inr rfl) ?_
      simp
  · simp [Sig.avS, c1]
    refine post_end (.inr rfl) ?_
    simp
end Go.Proofs.YtjlmpdbagmdbiaaDoor.WL

end
section
/-
  CHAPTER 13: whether a vote is right.
-/
namespace Go.Proofs.YtjlmpdbagmdbiaaDoor.WL
open Go
set_option maxHeartbeats 4000000
variable {G : Nat → Option AV}
attribute [local irreducible] sha comp hb checkK idxOf Vote.signs Vote.good

def memAt (ms : List Mem) (id : Int) : Mem := ms[(idxOf ms id).toNat]!
def rightV (c : Conf) (v : Vote) : Bool := decide (0 ≤ idxOf c.ms v.src) && v.good && decide (v.epoch = c.epoch) && checkK (memAt c.ms v.src).root (memAt c.ms v.src).height v.signs v.sig
theorem rightV_none {c : Conf} {v : Vote} (h : idxOf c.ms v.src = -1) : rightV c v = false := by simp [rightV, h]
theorem rightV_some {c : Conf} {v : Vote} {k : Nat} (hk : k < c.ms.length) (h : idxOf c.ms v.src = (k : Int)) : rightV c v = (v.good && decide (v.epoch = c.epoch) && checkK c.ms[k].root c.ms[k].height v.signs v.sig) := by
  simp [rightV, memAt, h, hk]

theorem vright_meets (c : Conf) (v : Vote) (hms : c.ms ≠ []) (hm : ∀ m ∈ c.ms, W64 m.height) (hv : W64 v.sig.leaf) : Meets Tryd.prog Gt fn_vote_Right [c.av, v.av] [] true (.v (.bool (rightV c v))) [] := by
  refine meets_of_go mix k_vote_Right ⟨by simp, by simp, by simp⟩ ?_
  rcases idxOf_case c.ms v.src with h | ⟨k, hk, h⟩
  · rw [rightV_none h]
    have m1 := find_none (G := Gt) hms h
    simp [Conf.av, Vote.av]
    refine call_intro m1 ?_ ?_
    · simp [Conf.av]
    simp [Mem.av]
    refine post_end (.inr rfl) ?_
    simp
  · rw [rightV_some hk h]
    have m1 := find_some (G := Gt) hk h
    have m2 := vgood_meets (G := Gt) v
    have m3 := vsigns_meets v
    have hh := hm _ (List.getElem_mem hk)
    have m4 := kcheck_meets c.ms[k].root c.ms[k].height v.signs v.sig hh hv
    generalize checkK c.ms[k].root c.ms[k].height v.signs v.sig = b4 at *
    generalize v.signs = sg at *
    simp [Conf.av, Vote.av]
    refine call_intro m1 ?_ ?_
    · simp [Conf.av]
    simp [Mem.av]
    refine call_intro m2 ?_ ?_
    · simp [Vote.av]
    simp
    cases hg : v.good
    · simp [hg]
      refine post_end (.inr rfl) ?_
      simp
    by_cases he : v.epoch = c.epoch
    · simp [hg, he]
      refine call_intro m3 ?_ ?_
      · simp [Vote.av, hg, he]
      simp [dv]
      refine call_intro m4 ?_ ?_
      · simp [dv]
      simp
      refine post_end (.inr rfl) ?_
      simp
    · simp [hg, he]
      refine post_end (.inr rfl) ?_
      simp
end Go.Proofs.YtjlmpdbagmdbiaaDoor.WL

end
section
/-
  CHAPTER 08, 13: the reference, quorums and digests.
-/
namespace Go.Proofs.YtjlmpdbagmdbiaaDoor.WL
open Go
set_option maxHeartbeats 8000000
variable {G : Nat → Option AV}
attribute [local irreducible] sha comp hb checkK idxOf Vote.good

theorem rfaults_meets (n : Nat) (h : n ≤ 1000000) : Meets Tryd.prog G fn_r08_Faults [.v (.int .i64 (n : Nat))] [] true (.v (.int .i64 (faults n : Nat))) [] := by
  refine meets_of_go mix k_r08_Faults ⟨by simp, by simp, by simp⟩ ?_
  obtain ⟨f, hf⟩ : ∃ f, faults n = f := ⟨_, rfl⟩
  have hf' : (n - 1) / 3 = f := hf
  rw [hf]
  simp
  refine go_up f (fun j (_ : Unit) => True) (fun j (_ : Unit) q => ⟨[(0, .v (.int .i64 (n : Nat))), (3, .v (.int .i64 (j : Nat)))], [], q + 1⟩) () _ (Weak.re (by simp)) trivial ?_ ?_
  · intro j _ q hj hx
    have hw : IntKind.i64.wrap ((j : Int) + 1) = (j : Int) + 1 := w64_id (by omega)
    have hw2 : IntKind.i64.wrap (3 * ((j : Int) + 1)) = 3 * ((j : Int) + 1) := w64_id (by omega)
    have hw3 : IntKind.i64.wrap (3 * ((j : Int) + 1) + 1) = 3 * ((j : Int) + 1) + 1 := w64_id (by omega)
    have hc : 3 * ((j : Int) + 1) + 1 ≤ (n : Nat) := by omega
    simp [hw, hw2, hw3, hc]
    exact ⟨(), _, Weak.re (by simp), trivial⟩
  · intro _ q hx
    have hw : IntKind.i64.wrap ((f : Int) + 1) = (f : Int) + 1 := w64_id (by omega)
    have hw2 : IntKind.i64.wrap (3 * ((f : Int) + 1)) = 3 * ((f : Int) + 1) := w64_id (by omega)
    have hw3 : IntKind.i64.wrap (3 * ((f : Int) + 1) + 1) = 3 * ((f : Int) + 1) + 1 := w64_id (by omega)
    have hc : ¬ 3 * ((f : Int) + 1) + 1 ≤ (n : Nat) := by omega
    simp [hw, hw2, hw3, hc]
    refine post_end (.inr rfl) ?_
    simp
theorem rquorum_meets (n : Nat) (h : n ≤ 1000000) : Meets Tryd.prog G fn_r08_Quorum [.v (.int .i64 (n : Nat))] [] true (.v (.int .i64 (quorum n : Nat))) [] := by
  refine meets_of_go mix k_r08_Quorum ⟨by simp, by simp, by simp⟩ ?_
  have m1 := rfaults_meets (G := G) n h
  obtain ⟨f, hf⟩ : ∃ f, faults n = f := ⟨_, rfl⟩
  have hf' : (n - 1) / 3 = f := hf
  obtain ⟨k, hk⟩ : ∃ k, quorum n = k := ⟨_, rfl⟩
  have hk' : (n + f) / 2 + 1 = k := by rw [← hk, ← hf]; rfl
  rw [hf] at m1
  rw [hk]
  have hw1 : IntKind.i64.wrap ((n : Int) + f) = (n : Int) + f := w64_id (by omega)
  simp
  refine go_up k (fun j (_ : Unit) => True) (fun j (_ : Unit) q => ⟨[(0, .v (.int .i64 (n : Nat))), (3, .v (.int .i64 (j : Nat)))], [], q + 1⟩) () _ (Weak.re (by simp)) trivial ?_ ?_
  · intro j _ q hj hx
    have hw : IntKind.i64.wrap ((j : Int) + 1) = ((j + 1 : Nat) : Int) := w64_succ (by omega)
    have hw2 : IntKind.i64.wrap (2 * (j : Int)) = 2 * (j : Int) := w64_id (by omega)
    have hc : 2 * (j : Int) ≤ (n : Nat) + (f : Nat) := by omega
    simp
    refine call_intro m1 ?_ ?_
    · simp
    simp [hw, hw1, hw2, hc]
    exact ⟨(), _, Weak.re (by simp), trivial⟩
  · intro _ q hx
    have hw2 : IntKind.i64.wrap (2 * (k : Int)) = 2 * (k : Int) := w64_id (by omega)
    have hc : ¬ 2 * (k : Int) ≤ (n : Nat) + (f : Nat) := by omega
    simp
    refine call_intro m1 ?_ ?_
    · simp
    simp [hw1, hw2, hc]
    refine post_end (.inr rfl) ?_
    simp
theorem memsB_snoc (ms : List Mem) (j : Nat) (h : j < ms.length) : memsB (ms.take (j + 1)) = memsB (ms.take j) ++ memB ms[j] := by
  unfold memsB
  rw [← List.take_append_getElem h, List.flatMap_append]
  simp only [List.flatMap_cons, List.flatMap_nil, List.append_nil]
theorem rcbytes_meets (c : Conf) (hn : c.ms.length ≤ 100000) : Meets Tryd.prog G fn_r08_Bytes [c.av] [] true (.v (.string (mkS c.bytes))) [] := by
  refine meets_of_go mix k_r08_Bytes ⟨by simp, by simp, by simp⟩ ?_
  have hb : c.bytes = nums [c.epoch, (c.ms.length : Int)] ++ memsB c.ms := rfl
  rw [hb]
  have m1 := rfnum_meets (G := G) c.epoch
  have m2 := rfnum_meets (G := G) (c.ms.length : Int)
  have h0 : be8 c.epoch ++ be8 (c.ms.length : Int) = nums [c.epoch, (c.ms.length : Int)] := by simp [nums]
  have l1 : (be8 c.epoch).length = 8 := by simp
  have l2 : (be8 (c.ms.length : Int)).length = 8 := by simp
  have l0 : (nums [c.epoch, (c.ms.length : Int)]).length = 16 := by simp [nums_length]
  have f0 : fitsS (8 + 8) := fitS (by omega)
  generalize nums [c.epoch, (c.ms.length : Int)] = x1 at *
  generalize be8 c.epoch = y1 at *
  generalize be8 (c.ms.length : Int) = y2 at *
  simp [Conf.av]
  refine call_intro m1 ?_ ?_
  · simp
  simp
  refine call_intro m2 ?_ ?_
  · simp
  simp [l1, l2, f0, h0]
  refine go_up c.ms.length (fun j (x : Bytes) => x = x1 ++ memsB (c.ms.take j)) (fun j x q => ⟨[(3, .v (.string (mkS x))), (15, .sl 34 (Mems c.ms)), (16, .v (.int .i64 (c.ms.length : Nat))), (17, .v (.int .i64 (j : Nat)))], [], q + 1⟩) x1 _ (Weak.re (by simp)) (by simp [memsB]) ?_ ?_
  · intro j x q hj hx
    have hw : IntKind.i64.wrap ((j : Int) + 1) = ((j + 1 : Nat) : Int) := w64_succ (by omega)
    have hxl : x.length = 16 + j * 48 := by
      rw [hx, List.length_append, memsB_length, List.length_take, l0]
      omega
    have m3 := rfnum_meets (G := G) c.ms[j].id
    have m4 := rfnum_meets (G := G) c.ms[j].height
    have m5 := rfdigest_meets (G := G) c.ms[j].root
    have l3 : (be8 c.ms[j].id).length = 8 := by simp
    have l4 : (be8 c.ms[j].height).length = 8 := by simp
    have hx2 : x ++ (be8 c.ms[j].id ++ (be8 c.ms[j].height ++ c.ms[j].root.bs)) = x1 ++ memsB (c.ms.take (j + 1)) := by
      rw [hx, memsB_snoc _ _ hj, List.append_assoc]
      simp [memB, nums]
    have f1 : fitsS (x.length + 8) := fitS (by omega)
    have f2 : fitsS (x.length + 8 + 8) := fitS (by omega)
    have f3 : fitsS (x.length + 8 + 8 + 32) := fitS (by omega)
    generalize be8 c.ms[j].id = y3 at *
    generalize be8 c.ms[j].height = y4 at *
    simp [hj, Mem.av, dv]
    refine call_intro m3 ?_ ?_
    · simp
    simp [f1, l3]
    refine call_intro m4 ?_ ?_
    · simp
    simp [f2, l3, l4]
    refine call_intro m5 ?_ ?_
    · simp [dv]
    simp [f3, l3, l4, hw]
    exact ⟨x ++ (y3 ++ (y4 ++ c.ms[j].root.bs)), _, Weak.re (by simp), hx2⟩
  · intro x q hx
    rw [List.take_length] at hx
    subst hx
    simp
    refine post_end (.inr rfl) ?_
    simp
theorem rcdigest_meets (c : Conf) (hn : c.ms.length ≤ 100000) : Meets Tryd.prog Gt fn_r08_Digest [c.av] [] true (dv c.dg) [] := by
  refine meets_of_go mix k_r08_Digest ⟨by simp, by simp, by simp⟩ ?_
  have hb := c.bytes_len
  have m1 := rcbytes_meets (G := Gt) c hn
  have m2 := rtext02_meets (bConfig ++ c.bytes) (by rw [List.length_append]; simp [bConfig]; omega)
  have f1 : fitsS (6 + c.bytes.length) := fitS (by omega)
  unfold Conf.dg
  generalize sha (bConfig ++ c.bytes) = d at *
  have hc : (99 :: 111 :: 110 :: 102 :: 105 :: 103 :: c.bytes : Bytes) = bConfig ++ c.bytes := rfl
  generalize c.bytes = x at *
  simp [Conf.av, dv]
  refine call_intro m1 ?_ ?_
  · simp [Conf.av]
  simp [f1]
  refine call_intro m2 ?_ ?_
  · simp [hc]
  simp [dv]
  refine post_end (.inr rfl) ?_
  simp
end Go.Proofs.YtjlmpdbagmdbiaaDoor.WL

end
section
/-
  CHAPTER 13: the reference: whether a vote can be.
-/
namespace Go.Proofs.YtjlmpdbagmdbiaaDoor.WL
open Go
set_option maxHeartbeats 8000000
variable {G : Nat → Option AV}

theorem rvgood_meets (v : Vote) : Meets Tryd.prog G fn_r13_Good [v.av] [] true (.v (.bool v.good)) [] := by
  refine meets_of_go mix k_r13_Good ⟨by simp, by simp, by simp⟩ ?_
  have e : v.good = ((decide (v.kind = 1) || decide (v.kind = 2)) && decide (0 ≤ v.epoch) && decide (v.epoch ≤ 1073741824) && decide (1 ≤ v.height) && decide (v.height ≤ 1024) && decide (0 ≤ v.round) && decide (v.round ≤ 1024) && decide (1 ≤ v.src) && decide (v.src ≤ 63)) := by
    have e1 : (decide (1 ≤ v.kind) && decide (v.kind ≤ 2)) = (decide (v.kind = 1) || decide (v.kind = 2)) := by
      rw [Bool.eq_iff_iff]
      simp only [Bool.and_eq_true, Bool.or_eq_true, decide_eq_true_eq]
      omega
    rw [← e1]
    rfl
  rw [e]
  by_cases k1 : v.kind = 1
  case pos =>
    by_cases c2 : v.epoch < 0
    case pos =>
      have d : ¬ 0 ≤ v.epoch := by omega
      simp [Vote.av, dv, eq_true k1, c2]
      refine post_end (.inr rfl) ?_
      simp [d]
    by_cases c3 : 1073741824 < v.epoch
    case pos =>
      have d : ¬ v.epoch ≤ 1073741824 := by omega
      simp [Vote.av, dv, eq_true k1, c2, c3]
      refine post_end (.inr rfl) ?_
      simp [d]
    by_cases c4 : v.height < 1
    case pos =>
      have d : ¬ 1 ≤ v.height := by omega
      simp [Vote.av, dv, eq_true k1, c2, c3, c4]
      refine post_end (.inr rfl) ?_
      simp [d]
    by_cases c5 : 1024 < v.height
    case pos =>
      have d : ¬ v.height ≤ 1024 := by omega
      simp [Vote.av, dv, eq_true k1, c2, c3, c4, c5]
      refine post_end (.inr rfl) ?_
      simp [d]
    have d : decide (0 ≤ v.epoch) = true ∧ decide (v.epoch ≤ 1073741824) = true ∧ decide (1 ≤ v.height) = true ∧ decide (v.height ≤ 1024) = true := by simp only [decide_eq_true_eq]; omega
    by_cases c6 : 0 ≤ v.round
    case neg =>
      simp [Vote.av, dv, eq_true k1, c2, c3, c4, c5, c6]
      refine post_end (.inr rfl) ?_
      simp [c6]
    by_cases c7 : v.round ≤ 1024
    case neg =>
      simp [Vote.av, dv, eq_true k1, c2, c3, c4, c5, c6, c7]
      refine post_end (.inr rfl) ?_
      simp [c7]
    by_cases c8 : 1 ≤ v.src
    case neg =>
      simp [Vote.av, dv, eq_true k1, c2, c3, c4, c5, c6, c7, c8]
      refine post_end (.inr rfl) ?_
      simp [c8]
    by_cases c9 : v.src ≤ 63
    case neg =>
      simp [Vote.av, dv, eq_true k1, c2, c3, c4, c5, c6, c7, c8, c9]
      refine post_end (.inr rfl) ?_
      simp [c9]
    rw [d.1, d.2.1, d.2.2.1, d.2.2.2]
    simp [Vote.av, dv, eq_true k1, c2, c3, c4, c5, c6, c7, c8, c9]
    refine post_end (.inr rfl) ?_
    simp
  by_cases k2 : v.kind = 2
  case pos =>
    by_cases c2 : v.epoch < 0
    case pos =>
      have d : ¬ 0 ≤ v.epoch := by omega
      simp [Vote.av, dv, k1, eq_true k2, c2]
      refine post_end (.inr rfl) ?_
      simp [d]
    by_cases c3 : 1073741824 < v.epoch
    case pos =>
      have d : ¬ v.epoch ≤ 1073741824 := by omega
      simp [Vote.av, dv, k1, eq_true k2, c2, c3]
      refine post_end (.inr rfl) ?_
      simp [d]
    by_cases c4 : v.height < 1
    case pos =>
      have d : ¬ 1 ≤ v.height := by omega
      simp [Vote.av, dv, k1, eq_true k2, c2, c3, c4]
      refine post_end (.inr rfl) ?_
      simp [d]
    by_cases c5 : 1024 < v.height
    case pos =>
      have d : ¬ v.height ≤ 1024 := by omega
      simp [Vote.av, dv, k1, eq_true k2, c2, c3, c4, c5]
      refine post_end (.inr rfl) ?_
      simp [d]
    have d : decide (0 ≤ v.epoch) = true ∧ decide (v.epoch ≤ 1073741824) = true ∧ decide (1 ≤ v.height) = true ∧ decide (v.height ≤ 1024) = true := by simp only [decide_eq_true_eq]; omega
    by_cases c6 : 0 ≤ v.round
    case neg =>
      simp [Vote.av, dv, k1, eq_true k2, c2, c3, c4, c5, c6]
      refine post_end (.inr rfl) ?_
      simp [c6]
    by_cases c7 : v.round ≤ 1024
    case neg =>
      simp [Vote.av, dv, k1, eq_true k2, c2, c3, c4, c5, c6, c7]
      refine post_end (.inr rfl) ?_
      simp [c7]
    by_cases c8 : 1 ≤ v.src
    case neg =>
      simp [Vote.av, dv, k1, eq_true k2, c2, c3, c4, c5, c6, c7, c8]
      refine post_end (.inr rfl) ?_
      simp [c8]
    by_cases c9 : v.src ≤ 63
    case neg =>
      simp [Vote.av, dv, k1, eq_true k2, c2, c3, c4, c5, c6, c7, c8, c9]
      refine post_end (.inr rfl) ?_
      simp [c9]
    rw [d.1, d.2.1, d.2.2.1, d.2.2.2]
    simp [Vote.av, dv, k1, eq_true k2, c2, c3, c4, c5, c6, c7, c8, c9]
    refine post_end (.inr rfl) ?_
    simp
  simp [Vote.av, dv, k1, k2]
  refine post_end (.inr rfl) ?_
  simp
end Go.Proofs.YtjlmpdbagmdbiaaDoor.WL

end
section
/-
  CHAPTER 13: the reference: whether a vote is right.
-/
namespace Go.Proofs.YtjlmpdbagmdbiaaDoor.WL
open Go
set_option maxHeartbeats 8000000
variable {G : Nat → Option AV}
attribute [local irreducible] sha comp hb checkK idxOf Vote.good

theorem rvhead_meets (v : Vote) : Meets Tryd.prog G fn_r13_Head [v.av] [] true (.v (.string (mkS v.head))) [] := by
  refine meets_of_go mix k_r13_Head ⟨by simp, by simp, by simp⟩ ?_
  have m2 := rfdigest_meets (G := G) v.dg
  simp [Vote.av]
  refine go_up 5 (fun j (x : Bytes) => x = nums (List.take j [v.kind, v.epoch, v.height, v.round, v.src])) (fun j x q => ⟨[(1, .ptr 1 q 0), (3, .v (.string (mkS x))), (16, .arr 1 [.v (.int .i64 v.kind), .v (.int .i64 v.epoch), .v (.int .i64 v.height), .v (.int .i64 v.round), .v (.int .i64 v.src)]), (17, .v (.int .i64 (j : Nat)))],
    [(1, .var q (.node [.v (.int .i64 v.kind), .v (.int .i64 v.epoch), .v (.int .i64 v.height), .v (.int .i64 v.round), dv v.dg, .v (.int .i64 v.src), v.sig.avS]))], q + 1⟩) [] _ (Weak.re (by simp)) rfl ?_ ?_
  · intro j x q hj hx
    have hxl : x.length = 8 * j := by
      rw [hx, nums_length, List.length_take]
      simp
      omega
    rcases (show j = 0 ∨ j = 1 ∨ j = 2 ∨ j = 3 ∨ j = 4 by omega) with rfl | rfl | rfl | rfl | rfl
    · have m1 := rfnum_meets (G := G) v.kind
      have l1 : (be8 v.kind).length = 8 := by simp
      have f1 : fitsS (x.length + 8) := fitS (by omega)
      have hw : IntKind.i64.wrap 1 = 1 := w64_id (by omega)
      have hx2 : x ++ be8 v.kind = nums (List.take (0 + 1) [v.kind, v.epoch, v.height, v.round, v.src]) := by rw [hx]; simp [nums]
      generalize be8 v.kind = y at *
      simp
      refine call_intro m1 ?_ ?_
      · simp
      simp [f1, l1]
      exact ⟨x ++ y, _, Weak.re (by simp [hw]), hx2⟩
    · have m1 := rfnum_meets (G := G) v.epoch
      have l1 : (be8 v.epoch).length = 8 := by simp
      have f1 : fitsS (x.length + 8) := fitS (by omega)
      have hw : IntKind.i64.wrap 2 = 2 := w64_id (by omega)
      have hx2 : x ++ be8 v.epoch = nums (List.take (1 + 1) [v.kind, v.epoch, v.height, v.round, v.src]) := by rw [hx]; simp [nums]
      generalize be8 v.epoch = y at *
      simp
      refine call_intro m1 ?_ ?_
      · simp
      simp [f1, l1]
      exact ⟨x ++ y, _, Weak.re (by simp [hw]), hx2⟩
    · have m1 := rfnum_meets (G := G) v.height
      have l1 : (be8 v.height).length = 8 := by simp
      have f1 : fitsS (x.length + 8) := fitS (by omega)
      have hw : IntKind.i64.wrap 3 = 3 := w64_id (by omega)
      have hx2 : x ++ be8 v.height = nums (List.take (2 + 1) [v.kind, v.epoch, v.height, v.round, v.src]) := by rw [hx]; simp [nums]
      generalize be8 v.height = y at *
      simp
      refine call_intro m1 ?_ ?_
      · simp
      simp [f1, l1]
      exact ⟨x ++ y, _, Weak.re (by simp [hw]), hx2⟩
    · have m1 := rfnum_meets (G := G) v.round
      have l1 : (be8 v.round).length = 8 := by simp
      have f1 : fitsS (x.length + 8) := fitS (by omega)
      have hw : IntKind.i64.wrap 4 = 4 := w64_id (by omega)
      have hx2 : x ++ be8 v.round = nums (List.take (3 + 1) [v.kind, v.epoch, v.height, v.round, v.src]) := by rw [hx]; simp [nums]
      generalize be8 v.round = y at *
      simp
      refine call_intro m1 ?_ ?_
      · simp
      simp [f1, l1]
      exact ⟨x ++ y, _, Weak.re (by simp [hw]), hx2⟩
    · have m1 := rfnum_meets (G := G) v.src
      have l1 : (be8 v.src).length = 8 := by simp
      have f1 : fitsS (x.length + 8) := fitS (by omega)
      have hw : IntKind.i64.wrap 5 = 5 := w64_id (by omega)
      have hx2 : x ++ be8 v.src = nums (List.take (4 + 1) [v.kind, v.epoch, v.height, v.round, v.src]) := by rw [hx]; simp [nums]
      generalize be8 v.src = y at *
      simp
      refine call_intro m1 ?_ ?_
      · simp
      simp [f1, l1]
      exact ⟨x ++ y, _, Weak.re (by simp [hw]), hx2⟩
  · intro x q hx
    have hxl : x.length = 40 := by rw [hx]; simp [nums_length]
    have f1 : fitsS (x.length + 32) := fitS (by omega)
    have hh : x ++ v.dg.bs = v.head := by rw [hx]; simp [Vote.head]
    simp
    refine call_intro m2 ?_ ?_
    · simp
    simp [f1, hh]
    refine post_end (.inr rfl) ?_
    simp
theorem rvsigns_meets (v : Vote) : Meets Tryd.prog Gt fn_r13_Signs [v.av] [] true (dv v.signs) [] := by
  refine meets_of_go mix k_r13_Signs ⟨by simp, by simp, by simp⟩ ?_
  have hb := v.head_len
  have m1 := rvhead_meets (G := Gt) v
  have m2 := rtext02_meets (bVote ++ v.head) (by rw [List.length_append]; simp [bVote]; omega)
  have f1 : fitsS (4 + v.head.length) := fitS (by omega)
  unfold Vote.signs
  generalize sha (bVote ++ v.head) = d at *
  have hc : (118 :: 111 :: 116 :: 101 :: v.head : Bytes) = bVote ++ v.head := rfl
  generalize v.head = x at *
  simp [Vote.av, dv]
  refine call_intro m1 ?_ ?_
  · simp [Vote.av, dv]
  simp [f1]
  refine call_intro m2 ?_ ?_
  · simp [hc]
  simp [dv]
  refine post_end (.inr rfl) ?_
  simp
attribute [local irreducible] Vote.signs
theorem rvright_meets (c : Conf) (v : Vote) (hn : c.ms.length ≤ 1000000) (hm : ∀ m ∈ c.ms, W64 m.height) (hv : W64 v.sig.leaf) : Meets Tryd.prog Gt fn_r13_Right [c.av, v.av] [] true (.v (.bool (rightV c v))) [] := by
  refine meets_of_go mix k_r13_Right ⟨by simp, by simp, by simp⟩ ?_
  have m1 := rplace_meets (G := Gt) c v.src hn
  rcases idxOf_case c.ms v.src with h | ⟨k, hk, h⟩
  · rw [rightV_none h]
    rw [h] at m1
    simp [Conf.av, Vote.av]
    refine call_intro m1 ?_ ?_
    · simp [Conf.av]
    simp
    refine post_end (.inr rfl) ?_
    simp
  · rw [rightV_some hk h]
    rw [h] at m1
    have hk0 : ¬ ((k : Int) < 0) := by omega
    have m2 := rvgood_meets (G := Gt) v
    have m3 := rvsigns_meets v
    have hh := hm _ (List.getElem_mem hk)
    have m4 := rkcheck_meets c.ms[k].root c.ms[k].height v.signs v.sig hh hv
    generalize checkK c.ms[k].root c.ms[k].height v.signs v.sig = b4 at *
    generalize v.signs = sg at *
    simp [Conf.av, Vote.av]
    refine call_intro m1 ?_ ?_
    · simp [Conf.av]
    simp [hk0]
    refine call_intro m2 ?_ ?_
    · simp [Vote.av]
    simp
    cases hg : v.good
    · simp [hg]
      refine post_end (.inr rfl) ?_
      simp
    by_cases he : v.epoch = c.epoch
    · simp [hg, eq_true he, hk, hk0, Mem.av]
      refine call_intro m3 ?_ ?_
      · simp [Vote.av]
      simp [dv]
      refine call_intro m4 ?_ ?_
      · simp [dv]
      simp
      refine post_end (.inr rfl) ?_
      simp
    · simp [hg, he]
      refine post_end (.inr rfl) ?_
      simp
end Go.Proofs.YtjlmpdbagmdbiaaDoor.WL

end
section
/-
  CHAPTER 09, 12: the reference: bytes of requests and blocks, a block's digest.
-/
namespace Go.Proofs.YtjlmpdbagmdbiaaDoor.WL
open Go
set_option maxHeartbeats 8000000
variable {G : Nat → Option AV}
attribute [local irreducible] sha comp hb

theorem rqb_meets (q : Req) (h : q.bytes.length ≤ 50000000) : Meets Tryd.prog G fn_r09_Bytes [q.av] [] true (.v (.string (mkS q.bytes))) [] := by
  refine meets_of_go mix k_r09_Bytes ⟨by simp, by simp, by simp⟩ ?_
  have hl := q.bytes_len
  have hb : q.bytes = nums [q.client, q.num, q.kind] ++ (txt q.key ++ (txt q.val ++ (txt q.old ++ (nums [q.ch.kind, q.ch.id, q.ch.new, q.ch.height] ++ q.ch.root.bs)))) := by simp [Req.bytes, txts]
  have m1 := rqnums_meets (G := G) [q.client, q.num, q.kind] (by simp)
  have m2 := rftext_meets (G := G) q.key (by omega)
  have m3 := rftext_meets (G := G) q.val (by omega)
  have m4 := rftext_meets (G := G) q.old (by omega)
  have m5 := rqnums_meets (G := G) [q.ch.kind, q.ch.id, q.ch.new, q.ch.height] (by simp)
  have m6 := rfdigest_meets (G := G) q.ch.root
  have l1 : (nums [q.client, q.num, q.kind]).length = 24 := by simp [nums_length]
  have l5 : (nums [q.ch.kind, q.ch.id, q.ch.new, q.ch.height]).length = 32 := by simp [nums_length]
  have l2 := txt_length q.key
  have l3 := txt_length q.val
  have l4 := txt_length q.old
  have f1 : fitsS (24 + (4 + q.key.length)) := fitS (by omega)
  have f2 : fitsS (24 + (4 + q.key.length) + (4 + q.val.length)) := fitS (by omega)
  have f3 : fitsS (24 + (4 + q.key.length + (4 + q.val.length)) + (4 + q.old.length)) := fitS (by omega)
  have f4 : fitsS (24 + (4 + q.key.length + (4 + q.val.length + (4 + q.old.length))) + 32) := fitS (by omega)
  have f5 : fitsS (24 + (4 + q.key.length + (4 + q.val.length + (4 + q.old.length + 32))) + 32) := fitS (by omega)
  rw [hb]
  generalize nums [q.client, q.num, q.kind] = y1 at *
  generalize nums [q.ch.kind, q.ch.id, q.ch.new, q.ch.height] = y5 at *
  generalize txt q.key = y2 at *
  generalize txt q.val = y3 at *
  generalize txt q.old = y4 at *
  simp [Req.av, Chg.av]
  refine call_intro m1 ?_ ?_
  · simp [I64_3]
  simp [I64_3]
  refine call_intro m2 ?_ ?_
  · simp
  simp [l1, l2, f1]
  refine call_intro m3 ?_ ?_
  · simp
  simp [l1, l2, l3, f2]
  refine call_intro m4 ?_ ?_
  · simp
  simp [l1, l2, l3, l4, f3]
  refine call_intro m5 ?_ ?_
  · simp [I64_4]
  simp [I64_4, l1, l2, l3, l4, l5, f4]
  refine call_intro m6 ?_ ?_
  · simp
  simp [l1, l2, l3, l4, l5, f5]
  refine post_end (.inr rfl) ?_
  simp
theorem rbb_meets (b : Blk) (h : b.bytes.length ≤ 50000000) (hn : b.qs.length ≤ 1000000) : Meets Tryd.prog G fn_r12_Bytes [b.avS] [] true (.v (.string (mkS b.bytes))) [] := by
  refine meets_of_go mix k_r12_Bytes ⟨by simp, by simp, by simp⟩ ?_
  have hlen := b.bytes_len
  have hb : b.bytes = b.head ++ reqsB b.qs := rfl
  have hh : be8 b.epoch ++ (be8 b.height ++ (b.prev.bs ++ (b.state.bs ++ (b.next.bs ++ be8 (b.qs.length : Int))))) = b.head := by simp [Blk.head, nums, flatD]
  have hhl := b.head_len
  rw [hb]
  have m1 := rfnum_meets (G := G) b.epoch
  have m2 := rfnum_meets (G := G) b.height
  have m3 := rfdigest_meets (G := G) b.prev
  have m4 := rfdigest_meets (G := G) b.state
  have m5 := rfdigest_meets (G := G) b.next
  have m6 := rfnum_meets (G := G) (b.qs.length : Int)
  have l1 : (be8 b.epoch).length = 8 := by simp
  have l2 : (be8 b.height).length = 8 := by simp
  have l6 : (be8 (b.qs.length : Int)).length = 8 := by simp
  generalize b.head = x1 at *
  generalize be8 b.epoch = y1 at *
  generalize be8 b.height = y2 at *
  generalize be8 (b.qs.length : Int) = y6 at *
  have f1 : fitsS (8 + 8) := fitS (by omega)
  have f2 : fitsS (8 + 8 + 32) := fitS (by omega)
  have f3 : fitsS (8 + 8 + 32 + 32) := fitS (by omega)
  have f4 : fitsS (8 + 8 + 32 + 32 + 32) := fitS (by omega)
  have f5 : fitsS (8 + 8 + 32 + 32 + 32 + 8) := fitS (by omega)
  simp [Blk.avS]
  refine call_intro m1 ?_ ?_
  · simp
  simp
  refine call_intro m2 ?_ ?_
  · simp
  simp [l1, l2, f1]
  refine call_intro m3 ?_ ?_
  · simp
  simp [l1, l2, f2]
  refine call_intro m4 ?_ ?_
  · simp
  simp [l1, l2, f3]
  refine call_intro m5 ?_ ?_
  · simp
  simp [l1, l2, f4]
  refine call_intro m6 ?_ ?_
  · simp
  simp [l1, l2, l6, f5, hh]
  obtain ⟨F, hF⟩ : ∃ F : Nat → Bytes, ∀ i, F i = x1 ++ reqsB (b.qs.take i) := ⟨_, fun _ => rfl⟩
  refine go_up b.qs.length (fun j (x : Bytes) => x = F j) (fun j x q => ⟨[(3, .v (.string (mkS x))), (31, .sl 42 (Reqs b.qs)), (32, .v (.int .i64 (b.qs.length : Nat))), (33, .v (.int .i64 (j : Nat)))], [], q + 1⟩) x1 _ (Weak.re (by simp)) (by rw [hF]; simp [reqsB]) ?_ ?_
  · intro j x q hj hx
    have hw : IntKind.i64.wrap ((j : Int) + 1) = ((j + 1 : Nat) : Int) := w64_succ (by omega)
    have ht := reqsB_take b.qs j hj
    have hle := reqsB_take_le b.qs (j + 1)
    rw [ht, List.length_append] at hle
    have m7 := rqb_meets (G := G) b.qs[j] (by omega)
    have hxl : x.length + b.qs[j].bytes.length ≤ 50000000 := by rw [hx, hF, List.length_append]; omega
    have f6 : fitsS (x.length + b.qs[j].bytes.length) := fitS (by omega)
    have hx2 : x ++ b.qs[j].bytes = F (j + 1) := by rw [hx, hF, hF, ht, List.append_assoc]
    generalize b.qs[j].bytes = y at *
    simp [hj, Req.av, Chg.av]
    refine call_intro m7 ?_ ?_
    · simp [Req.av, Chg.av]
    simp [f6, hw]
    exact ⟨x ++ y, _, Weak.re (by simp), hx2⟩
  · intro x q hx
    rw [hF, List.take_length] at hx
    subst hx
    simp
    refine post_end (.inr rfl) ?_
    simp
theorem rbdigest_meets (b : Blk) (h : b.bytes.length ≤ 40000000) (hn : b.qs.length ≤ 1000000) : Meets Tryd.prog Gt fn_r12_Digest [b.avS] [] true (dv b.dg) [] := by
  refine meets_of_go mix k_r12_Digest ⟨by simp, by simp, by simp⟩ ?_
  have m1 := rbb_meets (G := Gt) b (by omega) hn
  have m2 := rtext02_meets (bBlock ++ b.bytes) (by rw [List.length_append]; simp [bBlock]; omega)
  have f1 : fitsS (5 + b.bytes.length) := fitS (by omega)
  unfold Blk.dg
  generalize sha (bBlock ++ b.bytes) = d at *
  have hc : (98 :: 108 :: 111 :: 99 :: 107 :: b.bytes : Bytes) = bBlock ++ b.bytes := rfl
  generalize b.bytes = x at *
  simp [Blk.avS, dv]
  refine call_intro m1 ?_ ?_
  · simp [Blk.avS, dv]
  simp [f1]
  refine call_intro m2 ?_ ?_
  · simp [hc]
  simp [dv]
  refine post_end (.inr rfl) ?_
  simp
end Go.Proofs.YtjlmpdbagmdbiaaDoor.WL

end
section
/-
  CHAPTER 14: whether a word is right.
-/
namespace Go.Proofs.YtjlmpdbagmdbiaaDoor.WL
open Go
set_option maxHeartbeats 8000000
variable {G : Nat → Option AV}
attribute [local irreducible] sha comp hb checkK idxOf Vote.signs Vote.good rightV Conf.good Blk.good Blk.dg quorum

instance : Inhabited Vote := ⟨Vote.zero⟩
def lastSrc (vs : List Vote) : Nat → Int
  | 0 => 0
  | j + 1 => (vs[j]!).src
def voteOk (c : Conf) (b : Blk) (x : Cert) (j : Nat) : Bool :=
  decide (lastSrc x.votes j < (x.votes[j]!).src) && decide ((x.votes[j]!).kind = 2) && decide ((x.votes[j]!).height = b.height) && decide ((x.votes[j]!).round = x.round) && decide ((x.votes[j]!).dg = b.dg) && rightV c (x.votes[j]!)
def checkC (c : Conf) (b : Blk) (x : Cert) : Bool :=
  c.good && b.good && decide (b.epoch = c.epoch) && decide (quorum c.ms.length ≤ x.votes.length) && (List.range x.votes.length).all (voteOk c b x)
theorem checkC_no {c : Conf} {b : Blk} {x : Cert} {j : Nat} (h : j < x.votes.length) (hb : voteOk c b x j = false) : checkC c b x = false := by
  have : (List.range x.votes.length).all (voteOk c b x) = false := by
    rw [List.all_eq_false]
    exact ⟨j, List.mem_range.2 h, by simp [hb]⟩
  simp [checkC, this]
theorem checkC_yes {c : Conf} {b : Blk} {x : Cert} (h1 : c.good = true) (h2 : b.good = true) (h3 : b.epoch = c.epoch) (h4 : quorum c.ms.length ≤ x.votes.length) (h : ∀ j, j < x.votes.length → voteOk c b x j = true) : checkC c b x = true := by
  have : (List.range x.votes.length).all (voteOk c b x) = true := List.all_eq_true.2 fun j hj => h j (List.mem_range.1 hj)
  simp [checkC, this, h1, h2, h3, h4]
theorem Conf.good_ne {c : Conf} (h : c.good = true) : c.ms ≠ [] := by
  intro e
  simp [Conf.good, e] at h

theorem ccheck_meets (c : Conf) (b : Blk) (x : Cert) (hn : c.ms.length ≤ 1000000) (hm : ∀ m ∈ c.ms, W64 m.height) (hv : ∀ v ∈ x.votes, W64 v.sig.leaf) (hl : x.votes.length ≤ 1000000) (hb : b.bytes.length ≤ 50000000) (hq : b.qs.length ≤ 1000000) :
    Meets Tryd.prog Gt fn_cert_Check [c.av, b.avS, x.av] [] true (.v (.bool (checkC c b x))) [] := by
  refine meets_of_go mix k_cert_Check ⟨by simp, by simp, by simp⟩ ?_
  have m1 := cgood_meets (G := Gt) c
  have m2 := bgood_meets (G := Gt) b
  have m3 := cquorum_meets (G := Gt) c hn
  have m4 := bdigest_meets b hb hq
  cases h1 : c.good
  · rw [h1] at m1
    simp [Conf.av, Blk.avS, Cert.av, dv]
    refine call_intro m1 ?_ ?_
    · simp [Conf.av, dv]
    simp
    refine post_end (.inr rfl) ?_
    simp [checkC, h1]
  cases h2 : b.good
  · rw [h1] at m1
    rw [h2] at m2
    simp [Conf.av, Blk.avS, Cert.av, dv]
    refine call_intro m1 ?_ ?_
    · simp [Conf.av, dv]
    simp
    refine call_intro m2 ?_ ?_
    · simp [Blk.avS, dv]
    simp
    refine post_end (.inr rfl) ?_
    simp [checkC, h2]
  by_cases h3 : b.epoch = c.epoch
  case neg =>
    rw [h1] at m1
    rw [h2] at m2
    simp [Conf.av, Blk.avS, Cert.av, dv]
    refine call_intro m1 ?_ ?_
    · simp [Conf.av, dv]
    simp
    refine call_intro m2 ?_ ?_
    · simp [Blk.avS, dv]
    simp [h3]
    refine post_end (.inr rfl) ?_
    simp [checkC, h3]
  have h3' := eq_true h3
  by_cases h4 : quorum c.ms.length ≤ x.votes.length
  case neg =>
    have h4' : x.votes.length < quorum c.ms.length := by omega
    rw [h1] at m1
    rw [h2] at m2
    simp [Conf.av, Blk.avS, Cert.av, dv]
    refine call_intro m1 ?_ ?_
    · simp [Conf.av, dv]
    simp
    refine call_intro m2 ?_ ?_
    · simp [Blk.avS, dv]
    simp [h3']
    refine call_intro m3 ?_ ?_
    · simp [Conf.av, dv]
    simp [h4']
    refine post_end (.inr rfl) ?_
    simp [checkC, h4]
  have hno := @checkC_no c b x
  have hyes := checkC_yes h1 h2 h3 h4
  have hvo : ∀ j, voteOk c b x j = (decide (lastSrc x.votes j < (x.votes[j]!).src) && decide ((x.votes[j]!).kind = 2) && decide ((x.votes[j]!).height = b.height) && decide ((x.votes[j]!).round = x.round) && decide ((x.votes[j]!).dg = b.dg) && rightV c (x.votes[j]!)) := fun _ => rfl
  have hms := Conf.good_ne h1
  have m5 : ∀ v ∈ x.votes, Meets Tryd.prog Gt fn_vote_Right [c.av, v.av] [] true (.v (.bool (rightV c v))) [] := fun v hv' => vright_meets c v hms hm (hv v hv')
  have h4' : ¬ x.votes.length < quorum c.ms.length := by omega
  rw [h1] at m1
  rw [h2] at m2
  generalize checkC c b x = res at *
  obtain ⟨ok, hok⟩ : ∃ ok : Nat → Bool, ok = voteOk c b x := ⟨_, rfl⟩
  rw [← hok] at hno hyes hvo
  generalize b.dg = d at *
  generalize quorum c.ms.length = qn at *
  obtain ⟨R, hR⟩ : ∃ R : Vote → Bool, R = rightV c := ⟨_, rfl⟩
  rw [← hR] at hvo m5
  simp [Conf.av, Blk.avS, Cert.av, dv]
  refine call_intro m1 ?_ ?_
  · simp [Conf.av, dv]
  simp
  refine call_intro m2 ?_ ?_
  · simp [Blk.avS, dv]
  simp [h3']
  refine call_intro m3 ?_ ?_
  · simp [Conf.av, dv]
  simp [h4', h4]
  refine call_intro m4 ?_ ?_
  · simp [Blk.avS, dv]
  simp [dv]
  refine go_up x.votes.length (fun j (_ : Unit) => ∀ i, i < j → ok i = true) (fun j (_ : Unit) q => ⟨[(3, .ptr 3 q 0), (4, .ptr 4 q 0), (5, .ptr 5 q 0), (7, .ptr 7 q 0), (8, .v (.int .i64 (lastSrc x.votes j))), (37, .sl 41 (Votes x.votes)), (38, .v (.int .i64 (x.votes.length : Nat))), (39, .v (.int .i64 (j : Nat)))],
    [(3, .var q (.node [.v (.int .i64 c.epoch), .sl 34 (Mems c.ms)])), (4, .var q (.node [.v (.int .i64 b.epoch), .v (.int .i64 b.height), .arr 1 (B b.prev.bs), .arr 1 (B b.state.bs), .arr 1 (B b.next.bs), .sl 42 (Reqs b.qs)])), (5, .var q (.node [.v (.int .i64 x.round), .sl 41 (Votes x.votes)])), (7, .var q (.arr 1 (B d.bs)))], q + 1⟩) () _ (Weak.re (by simp [lastSrc])) (by intro i h; omega) ?_ ?_
  · intro j _ q hj hx
    have hw : IntKind.i64.wrap ((j : Int) + 1) = ((j + 1 : Nat) : Int) := w64_succ (by omega)
    obtain ⟨v, hv'⟩ : ∃ v, x.votes[j] = v := ⟨_, rfl⟩
    have hvb : x.votes[j]! = v := by simp [hj, hv']
    have e := hvo j
    rw [hvb] at e
    have m6 := m5 v (by rw [← hv']; exact List.getElem_mem hj)
    have hf : ok j = false → res = false := hno hj
    have hls : lastSrc x.votes (j+1) = v.src := by simp [lastSrc, hvb]
    generalize lastSrc x.votes j = ls at *
    have hnext : ok j = true → ∀ i, i < j + 1 → ok i = true := by
      intro h i hi
      rcases (show i < j ∨ i = j by omega) with h1 | rfl
      · exact hx i h1
      · exact h
    by_cases c1 : v.src ≤ ls
    · have hr := hf (by rw [e]; simp; omega)
      simp [hj, hv', Vote.av, dv, c1]
      refine post_end (.inr rfl) ?_
      simp [hr]
    by_cases c2 : v.kind = 2
    case neg =>
      have hr := hf (by rw [e]; simp [c2])
      simp [hj, hv', Vote.av, dv, c1, c2]
      refine post_end (.inr rfl) ?_
      simp [hr]
    by_cases c3 : v.height = b.height
    case neg =>
      have hr := hf (by rw [e]; simp [c3])
      simp [hj, hv', Vote.av, dv, c1, eq_true c2, c3]
      refine post_end (.inr rfl) ?_
      simp [hr]
    by_cases c4 : v.round = x.round
    case neg =>
      have hr := hf (by rw [e]; simp [c4])
      simp [hj, hv', Vote.av, dv, c1, eq_true c2, eq_true c3, c4]
      refine post_end (.inr rfl) ?_
      simp [hr]
    by_cases c5 : v.dg = d
    case neg =>
      have hr := hf (by rw [e]; simp [c5])
      simp [hj, hv', Vote.av, dv, c1, eq_true c2, eq_true c3, eq_true c4, c5]
      refine post_end (.inr rfl) ?_
      simp [hr]
    simp [hj, hv', Vote.av, dv, c1, eq_true c2, eq_true c3, eq_true c4, eq_true c5]
    refine call_intro m6 ?_ ?_
    · simp [Conf.av, Vote.av, dv]
    simp
    cases hb' : R v
    · have hr := hf (by rw [e]; simp [hb'])
      simp
      refine post_end (.inr rfl) ?_
      simp [hr]
    · have hok' : ok j = true := by
        rw [e, hb']
        simp [c2, c3, c4, c5]
        omega
      simp [hw]
      exact ⟨(), _, Weak.re (by simp [hls]), hnext hok'⟩
  · intro _ q hx
    have hr := hyes hx
    simp
    refine post_end (.inr rfl) ?_
    simp [hr]
end Go.Proofs.YtjlmpdbagmdbiaaDoor.WL

end
