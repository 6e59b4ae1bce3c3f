/-
  CHAPTER 04: walks of laws, second part.
-/
import Derived.Test.YtmkkfccnacodoaaDoorL04a
namespace Go.Proofs.YtmkkfccnacodoaaDoor.WL
open Go
set_option maxHeartbeats 4000000
attribute [local irreducible] comp hb sha leafD pairD secD shutD wholeD pubD ofD

theorem great4_meets {G : Nat → Option AV} (o s : List Dg) : Meets Tryd.prog G fn_l04_great [.node [.sl 32 (Dgs o), .sl 32 (Dgs s)]] [] true (.v (.bool (decide (200 < o.length) || decide (200 < s.length)))) [] := by
  refine meets_of_go mix k_l04_great ⟨by simp, by simp, by simp⟩ ?_
  by_cases c1 : (200 : Int) < (o.length : Nat)
  · have d1 : 200 < o.length := by omega
    simp [c1]
    refine post_end (.inr rfl) ?_
    simp [d1]
  have d1 : ¬ 200 < o.length := by omega
  by_cases c2 : (200 : Int) < (s.length : Nat)
  · have d2 : 200 < s.length := by omega
    simp [c1, c2]
    refine post_end (.inr rfl) ?_
    simp [d2]
  have d2 : ¬ 200 < s.length := by omega
  simp [c1, c2]
  refine post_end (.inr rfl) ?_
  simp [d1, d2]

def Dg.mix (d t : Dg) (j : Nat) : Bytes := d.bs.take j ++ t.bs.drop j
theorem Dg.mix_len (d t : Dg) (j : Nat) (h : j ≤ 32) : (d.mix t j).length = 32 := by
  have h1 := d.length
  have h2 := t.length
  unfold Dg.mix
  rw [List.length_append, List.length_take, List.length_drop]
  omega
theorem Dg.mix_set (d t : Dg) (j : Nat) (h : j < 32) : (d.mix t j).set j (d.bs[j]'(by have := d.length; omega)) = d.mix t (j + 1) := by
  have h1 := d.length
  have h2 := t.length
  unfold Dg.mix
  have e : (d.bs.take j).length = j := by rw [List.length_take]; omega
  rw [List.set_append_right _ _ (by omega), e, Nat.sub_self, List.take_succ_eq_append_getElem (by omega), List.append_assoc]
  congr 1
  rw [List.drop_eq_getElem_cons (l := t.bs) (i := j) (by omega)]
  rfl
def Dg.mixed (d t : Dg) : Dg := ⟨d.mix t 4, d.mix_len t 4 (by omega)⟩
theorem Dg.mixed_bit (d t : Dg) (i : Nat) (h : i < 32) : bitD d i = bitD (d.mixed t) i := by
  have h1 := d.length
  unfold bitD Dg.mixed Dg.mix
  simp only [List.getD_eq_getElem?_getD]
  rw [List.getElem?_append_left (by rw [List.length_take]; omega), List.getElem?_take_of_lt (by omega)]

theorem onceFits_walk (seed : Dg) (leaf : Int) (d t : Dg) (hl : -9223372036854775808 ≤ leaf ∧ leaf < 9223372036854775808) :
    Meets Tryd.prog Gt fn_l04_OnceFits [dv seed, .v (.int .i64 leaf), dv d, dv t] [] true (.v (.bool true)) [] := by
  refine meets_of_go mix k_l04_OnceFits ⟨by simp, by simp, by simp⟩ ?_
  have m1 := public_meets seed leaf hl 32 rfl
  have m3 := sign_meets seed leaf d hl 32 rfl
  have m4 := sign_meets seed leaf (d.mixed t) hl 32 rfl
  have hfst := openL_first seed leaf d (d.mixed t) 32 (fun i hi => d.mixed_bit t i hi)
  rw [← hfst.1, ← hfst.2] at m4
  clear hfst
  have hfit := ofD_fits seed leaf d 32
  have ho := openL_length seed leaf d 32
  have hs := shutL_length seed leaf d 32
  generalize openL seed leaf d 32 = o at *
  generalize shutL seed leaf d 32 = s at *
  have m2 := of4_meets d o s 32 rfl ho hs
  rw [hfit] at m2
  clear hfit
  generalize pubD seed leaf 32 = p at *
  have m5 := rsame4_meets (G := Gt) o s o s (by omega) (by omega)
  rw [decide_eq_true rfl, decide_eq_true rfl] at m5
  have hto : List.take 32 o = o := List.take_of_length_le (by omega)
  have hts : List.take 32 s = s := List.take_of_length_le (by omega)
  have hmx : d.mix t 4 = (d.mixed t).bs := rfl
  simp
  refine call_intro alive4_meets ?_ ?_
  · simp
  simp
  refine go_up 4 (fun j (x : Bytes) => x = d.mix t j) (fun j x c => ⟨[(1, .v (.int .i64 leaf)), (4, .ptr 4 c 0), (6, .ptr 6 c 0), (9, .ptr 9 c 0), (10, .v (.int .i64 (j : Nat)))],
    [(4, .var c (dv seed)), (6, .var c (dv d)), (9, .var c (.arr 1 (B x)))], c + 1⟩) t.bs _ (Weak.re (by simp)) (by simp [Dg.mix]) ?_ ?_
  · intro j x c hj hx
    have hw : IntKind.i64.wrap ((j : Int) + 1) = ((j + 1 : Nat) : Int) := w64_succ (by omega)
    have hj4 : (j : Int) < 4 := by omega
    have hj32 : (j : Int) < 32 := by omega
    have hj32n : j < 32 := by omega
    have hdl := d.length
    have hxl : x.length = 32 := by rw [hx]; exact d.mix_len t j (by omega)
    have hset := d.mix_set t j (by omega)
    rw [← hx] at hset
    have hjd : j < d.bs.length := by omega
    simp [hj4, hj32, hj32n, hxl, hw, hjd, B_set, hset]
    exact ⟨_, _, Weak.re (by simp), rfl⟩
  · intro x c hx
    rw [hx, hmx]
    simp
    refine call_intro m3 ?_ ?_
    · simp
    simp
    refine call_intro m2 ?_ ?_
    · simp [ho, hs, hto, hts]
    simp
    refine call_intro m1 ?_ ?_
    · simp
    simp
    refine call_intro m4 ?_ ?_
    · simp
    simp
    refine call_intro m5 ?_ ?_
    · simp [ho, hs, hto, hts]
    simp
    refine post_end (.inr rfl) ?_
    simp

theorem onceKeeps_walk (seed d : Dg) (u v : List Dg) : Meets Tryd.prog Gt fn_l04_OnceKeeps [dv seed, dv d, .node [.sl 32 (Dgs u), .sl 32 (Dgs v)]] [] true (.v (.bool true)) [] := by
  refine meets_of_go mix k_l04_OnceKeeps ⟨by simp, by simp, by simp⟩ ?_
  have m1 := great4_meets (G := Gt) u v
  have hl : (-9223372036854775808 : Int) ≤ 3 ∧ (3 : Int) < 9223372036854775808 := by omega
  have m2 := check4_meets seed d u v
  have m3 := sign_meets seed 3 d hl 32 rfl
  have m4 := rsign_meets seed 3 d hl 32 rfl
  have ho := openL_length seed 3 d 32
  have hs := shutL_length seed 3 d 32
  generalize openL seed 3 d 32 = o at *
  generalize shutL seed 3 d 32 = s at *
  have m5 := rsame4_meets (G := Gt) o s o s (by omega) (by omega)
  rw [decide_eq_true rfl, decide_eq_true rfl] at m5
  have o7 := one_set 7
  generalize Dg.one 7 = D7 at *
  have hto : List.take 32 o = o := List.take_of_length_le (by omega)
  have hts : List.take 32 s = s := List.take_of_length_le (by omega)
  simp
  refine call_intro alive4_meets ?_ ?_
  · simp
  simp
  refine call_intro m1 ?_ ?_
  · simp
  by_cases c1 : 200 < u.length
  · simp [c1]
    refine post_end (.inr rfl) ?_
    simp
  by_cases c2 : 200 < v.length
  · simp [c1, c2]
    refine post_end (.inr rfl) ?_
    simp
  have m6 := rsame4_meets (G := Gt) u v u v (by omega) (by omega)
  rw [decide_eq_true rfl, decide_eq_true rfl] at m6
  have f1 : fitsB u.length 32 := fits (by omega) (by omega)
  have f2 : fitsB v.length 32 := fits (by omega) (by omega)
  have htu : List.take u.length u = u := List.take_of_length_le (by omega)
  have htv : List.take v.length v = v := List.take_of_length_le (by omega)
  simp [c1, c2, f1, f2]
  refine call_intro m2 ?_ ?_
  · simp [htu, htv]
  simp
  refine call_intro m3 ?_ ?_
  · simp
  simp
  refine go_up 32 (fun j (x : List Dg) => x.length = 32) (fun j x c => ⟨[(3, .ptr 3 c 0), (4, .ptr 4 c 0), (5, .ptr 5 c 0), (7, .ptr 7 c 0), (8, .ptr 8 c 0), (32, .v (.int .i64 32)), (33, .v (.int .i64 (j : Nat)))],
    [(3, .var c (dv seed)), (4, .var c (dv d)), (5, .var c (.node [.sl 32 (Dgs u), .sl 32 (Dgs v)])), (7, .var c (.node [.row 14 32 c 0 u.length, .row 18 32 c 0 v.length])), (14, .rows c 32 (Dgs u)), (18, .rows c 32 (Dgs v)),
     (8, .var c (.node [.row 1291000 32 c 0 32, .row 1292000 32 c 0 32])), (1291000, .rows c 32 (Dgs x)), (1292000, .rows c 32 (Dgs s))], c + 1⟩) o _ (Weak.re (by simp)) ho ?_ ?_
  · intro j x c hj hx
    have hw : IntKind.i64.wrap ((j : Int) + 1) = ((j + 1 : Nat) : Int) := w64_succ (by omega)
    have hj32 : (j : Int) < 32 := by omega
    have hset : (Dgs x).set j (dv D7) = Dgs (x.set j D7) := by simp [Dgs, List.map_set]
    simp [hj, hj32, hx, hw, bv7, o7, hset]
    exact ⟨x.set j D7, _, Weak.re (by simp), by simpa using hx⟩
  · intro x c hx
    simp
    refine call_intro m6 ?_ ?_
    · simp [htu, htv]
    simp
    refine call_intro m3 ?_ ?_
    · simp
    simp
    refine call_intro m4 ?_ ?_
    · simp
    simp
    refine call_intro m5 ?_ ?_
    · simp [ho, hs, hto, hts]
    simp
    refine post_end (.inr rfl) ?_
    simp
end Go.Proofs.YtmkkfccnacodoaaDoor.WL
