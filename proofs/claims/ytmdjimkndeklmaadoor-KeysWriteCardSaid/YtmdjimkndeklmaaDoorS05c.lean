/-
  CHAPTER 05: contracts of the reference.
-/
import Derived.Test.YtmdjimkndeklmaaDoorS05a
import Derived.Test.YtmdjimkndeklmaaDoorS04c
import Derived.Test.YtmdjimkndeklmaaDoorS01d
namespace Go.Proofs.YtmdjimkndeklmaaDoor.WL
open Go
set_option maxHeartbeats 4000000
attribute [local irreducible] comp hb sha leafD pairD secD shutD wholeD pubD ofD

theorem rof4_bad (d : Dg) (o s : List Dg) (h : ¬ (o.length = 32 ∧ s.length = 32)) : Meets Tryd.prog Gt fn_r04_Of [dv d, .node [.sl 32 (Dgs o), .sl 32 (Dgs s)]] [] true (.tup [dv Dg.zero, .v (.bool false)]) [] := by
  refine meets_of_go mix k_r04_Of ⟨by simp, by simp, by simp⟩ ?_
  by_cases h1 : o.length = 32
  · have h2 : ¬ s.length = 32 := fun e => h ⟨h1, e⟩
    have h3 : ¬ (s.length : Int) = 32 := by omega
    simp [h1, h2, h3]
    refine post_end (.inr rfl) ?_
    simp
  · have h3 : ¬ (o.length : Int) = 32 := by omega
    simp [h1, h3]
    refine post_end (.inr rfl) ?_
    simp

theorem flatD_app (a b : List Dg) : flatD (a ++ b) = flatD a ++ flatD b := by simp [flatD]
theorem rof4_meets (d : Dg) (o s : List Dg) (N : Nat) (hN : N = 32) (ho : o.length = N) (hs : s.length = N) : Meets Tryd.prog Gt fn_r04_Of [dv d, .node [.sl 32 (Dgs o), .sl 32 (Dgs s)]] [] true (.tup [dv (ofD d o s N), .v (.bool true)]) [] := by
  refine meets_of_go mix k_r04_Of ⟨by simp, by simp, by simp⟩ ?_
  have ho32 : o.length = 32 := by omega
  have hs32 : s.length = 32 := by omega
  simp [ho32, hs32]
  refine go_up N (fun j (x : Bytes) => x = flatD (ofL d o s j)) (fun j x c => ⟨[(2, .ptr 2 c 0), (3, .ptr 3 c 0), (4, .ptr 4 c 0), (6, .v (.string (mkS x))), (7, .v (.int .i64 (j : Nat)))],
    [(2, .var c (dv d)), (3, .var c (.node [.sl 32 (Dgs o), .sl 32 (Dgs s)])), (4, .var c (dv Dg.zero))], c + 1⟩) [] _ (Weak.re (by simp)) (by simp [ofL, flatD]) ?_ ?_
  · intro j x c hj hx
    have hw : IntKind.i64.wrap ((j : Int) + 1) = ((j + 1 : Nat) : Int) := w64_succ (by omega)
    have hj8 : (j : Int) < 32 := by omega
    have hxl : x.length = 64 * j := by rw [hx, flatD_length, ofL_length]; omega
    have f1 : fitsS (x.length + 32) := fitS (by omega)
    have f2 : fitsS (x.length + 32 + 32) := fitS (by omega)
    have hbt := rbit_meets (G := Gt) d j (by omega)
    have hle := bitD_le d j
    have hjo : j < o.length := by omega
    have hjs : j < s.length := by omega
    have hnx : x ++ flatD (two (bitD d j) (shutD o[j]) s[j]) = flatD (ofL d o s (j + 1)) := by
      have e1 : o.getD j Dg.zero = o[j] := by rw [List.getD_eq_getElem?_getD, List.getElem?_eq_getElem hjo]; rfl
      have e2 : s.getD j Dg.zero = s[j] := by rw [List.getD_eq_getElem?_getD, List.getElem?_eq_getElem hjs]; rfl
      rw [hx, ← e1, ← e2, ← flatD_app]
      rfl
    generalize bitD d j = b at *
    have t1 := rshut_meets o[j]
    generalize shutD o[j] = a at *
    obtain ⟨z, hz⟩ : ∃ z, s[j] = z := ⟨_, rfl⟩
    rw [hz] at hnx
    have d1 := rfdigest_meets (G := Gt) a
    have d2 := rfdigest_meets (G := Gt) z
    have e2 : ∀ p q : Dg, flatD [p, q] = p.bs ++ q.bs := fun p q => by simp [flatD]
    rcases hle with rfl | rfl
    · rw [two, if_pos rfl, e2] at hnx
      simp [hj8, hjo, hjs, hz]
      refine call_intro t1 ?_ ?_
      · simp
      simp [hjo, hjs, hz]
      refine call_intro d1 ?_ ?_
      · simp
      simp [hjo, hjs, hz]
      refine call_intro d2 ?_ ?_
      · simp
      simp
      refine call_intro hbt ?_ ?_
      · simp
      simp [f1, f2, hw]
      exact ⟨x ++ (a.bs ++ z.bs), _, Weak.re (by simp), hnx⟩
    · rw [two, if_neg (by omega), e2] at hnx
      simp [hj8, hjo, hjs, hz]
      refine call_intro t1 ?_ ?_
      · simp
      simp [hjo, hjs, hz]
      refine call_intro d1 ?_ ?_
      · simp
      simp [hjo, hjs, hz]
      refine call_intro d2 ?_ ?_
      · simp
      simp
      refine call_intro hbt ?_ ?_
      · simp
      simp [f1, f2, hw]
      exact ⟨x ++ (z.bs ++ a.bs), _, Weak.re (by simp), hnx⟩
  · intro x c hx
    have hxl : x.length = 64 * N := by rw [hx, flatD_length, ofL_length]; omega
    have htx := rtext02_meets x (by omega)
    have hp : sha x = ofD d o s N := by rw [hx]; unfold ofD wholeD; rfl
    rw [hp] at htx
    generalize ofD d o s N = y at *
    subst hN
    simp
    refine call_intro htx ?_ ?_
    · simp
    simp
    refine post_end (.inr rfl) ?_
    simp

theorem rleaves_meets (seed : Dg) (h : Nat) (hh : h ≤ 6) (N : Nat) (hN : N = 32) : Meets Tryd.prog Gt fn_r05_Leaves [dv seed, .v (.int .i64 (h : Nat))] [] true (.row 1000 32 1 0 (leavesD seed N (2 ^ h)).length) [(1000, .rows 1 32 (Dgs (leavesD seed N (2 ^ h))))] := by
  refine meets_of_go mix k_r05_Leaves ⟨by simp, by simp, by simp⟩ ?_
  obtain ⟨f, hf⟩ : ∃ f : Nat → Nat, ∀ j, f j = 2 ^ j := ⟨_, fun _ => rfl⟩
  have hf0 : f 0 = 1 := by rw [hf]
  have hfh : ∀ j, j ≤ h → f j ≤ 64 := fun j hj => by rw [hf]; exact Nat.le_trans (Nat.pow_le_pow_right (by omega) (show j ≤ 6 by omega)) (by decide)
  rw [← hf h]
  simp
  refine go_up h (fun j (_ : Unit) => True) (fun j _ c => ⟨[(1, .v (.int .i64 (h : Nat))), (2, .ptr 2 c 0), (5, .v (.slice none 0 0)), (6, .v (.int .i64 (f j : Nat))), (7, .v (.int .i64 (j : Nat)))], [(2, .var c (dv seed))], c + 1⟩) () _ (Weak.re (by simp [hf0])) trivial ?_ ?_
  · intro j _ c hj _
    have hw : IntKind.i64.wrap ((j : Int) + 1) = ((j + 1 : Nat) : Int) := w64_succ (by omega)
    have h1 := hfh j (by omega)
    have e1 : f (j + 1) = 2 * f j := by
      have a := hf (j + 1)
      have b := hf j
      rw [a, b]
      exact Nat.pow_succ'
    obtain ⟨v, hv⟩ : ∃ v, f (j + 1) = v := ⟨_, rfl⟩
    rw [hv] at e1
    have w1 : IntKind.i64.wrap (2 * (f j : Int)) = (v : Int) := by rw [w64_id (by omega)]; omega
    simp [hj, w1, hw]
    exact ⟨(), _, Weak.re (by simp [hv]), trivial⟩
  · intro _ c _
    have h1 := hfh h (by omega)
    generalize f h = q at *
    simp
    refine go_up q (fun j (x : List Dg) => x = leavesD seed N j) (fun j x c => ⟨[(2, .ptr 2 c 0), (5, .row 5 32 c 0 x.length), (6, .v (.int .i64 (q : Nat))), (8, .v (.int .i64 (j : Nat)))], [(2, .var c (dv seed)), (5, .rows c 32 (Dgs x))], c + 1⟩) [] _ (Weak.re (by simp)) rfl ?_ ?_
    · intro j x c hj hx
      have hw : IntKind.i64.wrap ((j : Int) + 1) = ((j + 1 : Nat) : Int) := w64_succ (by omega)
      have hxl : x.length = j := by rw [hx]; simp
      have f1 : fitsB (j + 1) 32 := fits (by omega) (by omega)
      have m1 := rpublic_meets seed (j : Int) (by omega) N hN
      have hnx : x ++ [leafK (pubD seed (j : Int) N)] = leavesD seed N (j + 1) := by rw [hx]; rfl
      generalize pubD seed (j : Int) N = p at *
      have m2 := rfdigest_meets (G := Gt) p
      have m3 := rleaf_meets p.bs (by simp)
      have e : leafD p.bs = leafK p := by unfold leafK; rfl
      rw [e] at m3
      generalize leafK p = k at *
      simp [hj]
      refine call_intro m1 ?_ ?_
      · simp
      simp
      refine call_intro m2 ?_ ?_
      · simp
      simp
      refine call_intro m3 ?_ ?_
      · simp
      simp [f1, hxl, hw, Dgs_snoc]
      exact ⟨x ++ [k], _, Weak.re (by simp [hxl]), hnx⟩
    · intro x c hx
      have hxl : x.length = q := by rw [hx]; simp
      rw [← hx]
      simp
      refine post_end (.inr rfl) ?_
      simp [hxl]

theorem rkey_meets (seed : Dg) (h : Nat) (hh : h ≤ 6) (N : Nat) (hN : N = 32) : Meets Tryd.prog Gt fn_r05_Key [dv seed, .v (.int .i64 (h : Nat))] [] true (.node [dv (rootD (leavesD seed N (2 ^ h))), .v (.int .i64 (h : Nat))]) [] := by
  refine meets_of_go mix k_r05_Key ⟨by simp, by simp, by simp⟩ ?_
  have m1 := rleaves_meets seed h hh N hN
  have hl := leavesD_length seed N (2 ^ h)
  have hq : 2 ^ h ≤ 64 := Nat.le_trans (Nat.pow_le_pow_right (by omega) hh) (by decide)
  generalize 2 ^ h = q at *
  generalize leavesD seed N q = l at *
  have m2 := rroot_meets l.length l (Nat.le_refl _) (by omega)
  generalize rootD l = y at *
  have htl : List.take l.length l = l := List.take_of_length_le (by omega)
  simp
  refine call_intro m1 ?_ ?_
  · simp
  simp
  refine call_intro m2 ?_ ?_
  · simp [htl]
  simp [htl]
  refine post_end (.inr rfl) ?_
  simp

theorem rksign_meets (seed : Dg) (ls : List Dg) (n : Nat) (d : Dg) (hn : n < ls.length) (hl : ls.length ≤ 1000000) (N : Nat) (hN : N = 32) :
    Meets Tryd.prog Gt fn_r05_Sign [dv seed, .sl 32 (Dgs ls), .v (.int .i64 (n : Nat)), dv d] [] true (Sig.avR 3000 4000 5000 1 (signK seed ls n d N)) (Sig.rows 3000 4000 5000 1 (signK seed ls n d N)) := by
  refine meets_of_go mix k_r05_Sign ⟨by simp [Sig.rows], by simp [Sig.rows, Sig.avR], by simp [Sig.rows]⟩ ?_
  have m1 := rpath_meets ls.length ls n (Nat.le_refl _) hl hn
  have m2 := rsign_meets seed (n : Int) d (by omega) N hN
  have ho := openL_length seed (n : Int) d N
  have hs := shutL_length seed (n : Int) d N
  unfold signK
  generalize openL seed (n : Int) d N = o at *
  generalize shutL seed (n : Int) d N = s at *
  generalize pathD ls n = p at *
  simp
  refine call_intro m2 ?_ ?_
  · simp
  simp
  refine call_intro m1 ?_ ?_
  · simp
  simp
  refine post_end (.inr rfl) ?_
  simp [Sig.avR, Sig.rows, ho, hs]

theorem rkcheck_meets (root : Dg) (h : Int) (d : Dg) (s : Sig) (hh : -9223372036854775808 ≤ h ∧ h < 9223372036854775808) (hl : -9223372036854775808 ≤ s.leaf ∧ s.leaf < 9223372036854775808) :
    Meets Tryd.prog Gt fn_r05_Check [.node [dv root, .v (.int .i64 h)], dv d, s.avS] [] true (.v (.bool (checkK root h d s))) [] := by
  refine meets_of_go mix k_r05_Check ⟨by simp, by simp, by simp⟩ ?_
  unfold checkK
  by_cases h1 : s.op.length = 32 ∧ s.sh.length = 32
  · have m1 := rof4_meets d s.op s.sh 32 rfl h1.1 h1.2
    generalize ofD d s.op s.sh 32 = y at *
    have m2 := rfdigest_meets (G := Gt) y
    have m3 := rleaf_meets y.bs (by simp)
    have e : leafD y.bs = leafK y := by unfold leafK; rfl
    rw [e] at m3
    generalize leafK y = z at *
    by_cases h2 : h < 0
    · have h2' : ¬ 0 ≤ h := by omega
      simp [Sig.avS]
      refine call_intro m1 ?_ ?_
      · simp
      simp [h2]
      refine post_end (.inr rfl) ?_
      simp [h2']
    by_cases h3 : 6 < h
    · have h3' : ¬ h ≤ 6 := by omega
      simp [Sig.avS]
      refine call_intro m1 ?_ ?_
      · simp
      simp [h2, h3]
      refine post_end (.inr rfl) ?_
      simp [h3']
    by_cases h4 : s.leaf < 0
    · have h4' : ¬ 0 ≤ s.leaf := by omega
      simp [Sig.avS]
      refine call_intro m1 ?_ ?_
      · simp
      simp [h2, h3, h4]
      refine post_end (.inr rfl) ?_
      simp [h4']
    obtain ⟨n, rfl⟩ : ∃ n : Nat, h = n := ⟨h.toNat, by omega⟩
    have hmin : min n 64 = n := by omega
    have hn6 : n ≤ 6 := by omega
    obtain ⟨q, hq⟩ : ∃ q : Nat, q = 2 ^ n := ⟨_, rfl⟩
    have hq64 : q ≤ 64 := by rw [hq]; exact Nat.le_trans (Nat.pow_le_pow_right (by omega) hn6) (by decide)
    have hqi : ((2 : Int) ^ n) = (q : Int) := by rw [hq]; simp
    have w0 : IntKind.u64.wrap (n : Int) = (n : Int) := u64_id (by omega)
    have w1 : IntKind.i64.wrap (q : Int) = (q : Int) := w64_id (by omega)
    obtain ⟨i, hi⟩ : ∃ i : Nat, s.leaf = i := ⟨s.leaf.toNat, by omega⟩
    have h4i : ¬ (i : Int) < 0 := by omega
    have h3n : ¬ 6 < n := by omega
    rw [Int.toNat_natCast, ← hq, hi, Int.toNat_natCast]
    by_cases h5 : (q : Int) ≤ (i : Int)
    · have h5' : ¬ (i : Int) < (q : Int) := by omega
      have h5n : q ≤ i := by omega
      have h5n' : ¬ i < q := by omega
      simp [Sig.avS, hi]
      refine call_intro m1 ?_ ?_
      · simp
      simp [h2, h3, h3n, h4i, w0, hmin, hqi, w1, h5, h5n]
      refine post_end (.inr rfl) ?_
      simp [h5n']
    · have h5n : ¬ q ≤ i := by omega
      have h5n' : i < q := by omega
      have m4 := rcheck_meets root q z i q s.path (Nat.le_refl _) h5n' (by omega)
      generalize checkD root z i q s.path = e at *
      simp [Sig.avS, hi]
      refine call_intro m1 ?_ ?_
      · simp
      simp [h2, h3, h3n, h4i, w0, hmin, hqi, w1, h5, h5n]
      refine call_intro m2 ?_ ?_
      · simp
      simp
      refine call_intro m3 ?_ ?_
      · simp
      simp
      refine call_intro m4 ?_ ?_
      · simp
      simp
      refine post_end (.inr rfl) ?_
      have h3' : (n : Int) ≤ 6 := by omega
      simp [h1, h5n', hn6, h3']
  · have m1 := rof4_bad d s.op s.sh h1
    simp [Sig.avS]
    refine call_intro m1 ?_ ?_
    · simp
    simp
    refine post_end (.inr rfl) ?_
    simp [h1]

def Sig.same (a b : Sig) : Bool := decide (a.leaf = b.leaf) && (decide (a.op = b.op) && decide (a.sh = b.sh)) && decide (a.path = b.path)
theorem rksame_meets {G : Nat → Option AV} (a b : Sig) (h1 : a.op.length ≤ 1000000000) (h2 : a.sh.length ≤ 1000000000) (h3 : a.path.length ≤ 1000000000) : Meets Tryd.prog G fn_r05_Same [a.avS, b.avS] [] true (.v (.bool (a.same b))) [] := by
  refine meets_of_go mix k_r05_Same ⟨by simp, by simp, by simp⟩ ?_
  have m1 := rsame4_meets (G := G) a.op a.sh b.op b.sh h1 h2
  have m2 := rsame_meets (G := G) a.path b.path h3
  unfold Sig.same
  by_cases c1 : a.leaf = b.leaf
  · simp [Sig.avS, c1]
    refine call_intro m1 ?_ ?_
    · simp
    by_cases c2 : a.op = b.op ∧ a.sh = b.sh
    · simp [c2]
      refine call_intro m2 ?_ ?_
      · simp
      simp
      refine post_end (.inr rfl) ?_
      simp
    · have c3 : (decide (a.op = b.op) && decide (a.sh = b.sh)) = false := by
        rw [Bool.and_eq_false_iff, decide_eq_false_iff_not, decide_eq_false_iff_not]
        by_cases e : a.op = b.op
        · exact .inr fun h => c2 ⟨e, h⟩
        · exact .inl e
      simp only [c3]
      simp
      refine post_end (.inr rfl) ?_
      simp
  · simp [Sig.avS, c1]
    refine post_end (.inr rfl) ?_
    simp
end Go.Proofs.YtmdjimkndeklmaaDoor.WL
