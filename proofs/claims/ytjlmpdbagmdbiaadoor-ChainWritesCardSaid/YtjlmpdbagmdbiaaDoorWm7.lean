
import Derived.Test.YtjlmpdbagmdbiaaDoorWc2
section
namespace Go.Proofs.YtjlmpdbagmdbiaaDoor.WL
open Go
set_option maxHeartbeats 4000000
def rdM (g : Nat) (r : Rd) : List (Nat × Loc) := [(1000, .var 0 (.node [.row 2000 1 g r.pre.length r.s.length, .v (.bool r.bad)])), (2000, .rows g 1 (B (r.pre ++ r.s)))]
def Rd.at_ (r : Rd) (k : Int) : Nat := if r.ok k = true then r.pre.length else 0
theorem Rd.at_le (r : Rd) (k : Int) : r.at_ k + (r.got k).length = (r.skip k).pre.length := by
  unfold Rd.at_ Rd.got Rd.skip
  split <;> simp [Rd.fault]
theorem Rd.at_drop (r : Rd) (k : Int) : ((r.skip k).pre ++ (r.skip k).s).drop (r.at_ k) = r.got k ++ (r.skip k).s := by
  unfold Rd.at_ Rd.got Rd.skip
  split <;> simp [Rd.fault]
theorem Rd.at_get (r : Rd) (k : Int) (j : Nat) (h : j < (r.got k).length) : ((r.skip k).pre ++ (r.skip k).s)[r.at_ k + j]? = some (r.got k)[j] := by
  rw [← List.getElem?_drop, Rd.at_drop, List.getElem?_append_left h, List.getElem?_eq_getElem h]
theorem JLf {G : Nat → Option AV} (bs : Bytes) (h : fitsB bs.length 1) : Meets Tryd.prog G JcN [.sl 1 (B bs)] [] true (.ptr 1000 1 0) [(1000, .var 1 (.node [.row 2000 1 1 0 bs.length, .v (.bool false)])), (2000, .rows 1 1 (B bs))] := by
  refine Jc mix JJC ⟨by simp, by simp, by simp⟩ ?_
  simp [h]
  refine Jb (.inr rfl) ?_
  simp
theorem J8 {G : Nat → Option AV} (r : Rd) : Meets Tryd.prog G Jk [.ptr 1000 0 0] (rdM 0 r) true (.v (.bool !r.bad)) (rdM 1 r) := by
  refine Jc mix Jyh ⟨by simp [rdM], by simp, by simp [rdM]⟩ ?_
  simp [rdM]
  refine Jb (.inr rfl) ?_
  simp
theorem Jjn {G : Nat → Option AV} (r : Rd) (k : Int) :
    Meets Tryd.prog G JJ [.ptr 1000 0 0, .v (.int .i64 k)] (rdM 0 r) true (.row 2000 1 1 (r.at_ k) (r.got k).length) (rdM 1 (r.skip k)) := by
  refine Jc mix Jx4 ⟨by simp [rdM], by simp [rdM], by simp [rdM]⟩ ?_
  cases hok : r.ok k with
  | true =>
    have h := hok
    simp only [Rd.ok, Bool.and_eq_true, Bool.not_eq_true', decide_eq_true_eq] at h
    obtain ⟨⟨h1, h2⟩, h3⟩ := h
    have h4 : ¬ (k < 0) := by omega
    have h5 : ¬ ((r.s.length : Int) < k) := by omega
    obtain ⟨n, rfl⟩ := Int.eq_ofNat_of_zero_le h2
    have h6 : n ≤ r.s.length := by omega
    simp [rdM, h1, h3, h4, h5, h6, Rd.at_, Rd.got, Rd.skip, hok]
    refine Jb (.inr rfl) ?_
    simp [h6]
  | false =>
    have h : r.bad = true ∨ k < 0 ∨ (r.s.length : Int) < k := by
      simp only [Rd.ok] at hok
      cases hb : r.bad
      · simp [hb] at hok; omega
      · simp
    cases hb : r.bad
    · simp [hb] at h
      by_cases h0 : k < 0
      · simp [rdM, hb, h0, Rd.at_, Rd.got, Rd.skip, hok]
        refine Jb (.inr rfl) ?_
        simp [Rd.fault]
      · have h1 : (r.s.length : Int) < k := by omega
        simp [rdM, hb, h0, h1, Rd.at_, Rd.got, Rd.skip, hok]
        refine Jb (.inr rfl) ?_
        simp [Rd.fault]
    · simp [rdM, hb, Rd.at_, Rd.got, Rd.skip, hok]
      refine Jb (.inr rfl) ?_
      simp [Rd.fault]
end Go.Proofs.YtjlmpdbagmdbiaaDoor.WL
end
section
namespace Go.Proofs.YtjlmpdbagmdbiaaDoor.WL
open Go
set_option maxHeartbeats 4000000
def rdC (r : Rd) : List (Nat × Loc) := [(1000, .var 0 (.node [.row 1072000 1 5 r.pre.length r.s.length, .v (.bool r.bad)])), (1072000, .rows 5 1 (B (r.pre ++ r.s)))]
theorem Jjk {G : Nat → Option AV} (r : Rd) : Meets Tryd.prog G Jx [.ptr 1000 0 0] (rdM 0 r) true (.v (.int .i64 r.num)) (rdM 1 r.num') := by
  refine Jc mix JBb ⟨by simp [rdM], by simp, by simp [rdM]⟩ ?_
  simp
  refine Ja (Jjn r 8) ?_ ?_
  · simp [rdM]
  simp [rdM]
  refine go_up (r.got 8).length (fun _ _ => True) (fun j (_ : Unit) c => ⟨[(3, .v (.int .u64 (beVal ((r.got 8).take j) : Nat))), (7, .row 1072000 1 5 (r.at_ 8) (r.got 8).length), (8, .v (.int .i64 ((r.got 8).length : Nat))), (9, .v (.int .i64 (j : Nat)))], rdC (r.skip 8), c⟩)
    () _ (Weak.refl _) trivial ?_ ?_
  · intro j _ c hj _
    have h8 : (r.got 8).length ≤ 8 := r.got_le 8
    have hw : IntKind.i64.wrap ((j : Int) + 1) = ((j + 1 : Nat) : Int) := Je (by omega)
    have hlt : beVal ((r.got 8).take j) < 2 ^ 56 := Nat.lt_of_lt_of_le (Jgo _) (by
      rw [List.length_take]
      exact Nat.le_trans (Nat.pow_le_pow_right (by omega) (show min j (r.got 8).length ≤ 7 by omega)) (by decide))
    have hb := JPj (beVal ((r.got 8).take j)) (r.got 8)[j] hlt
    rw [← JbL _ _ hj] at hb
    have hget := r.at_get 8 j hj
    have hle := r.at_le 8
    simp [rdC, hj, hget, hw, hb]
    exact ⟨(), _, Weak.refl _, trivial⟩
  · intro _ c _
    simp [rdC]
    refine Jb (.inr rfl) ?_
    simp [Rd.num, Rd.num']
theorem JV {G : Nat → Option AV} (r : Rd) : Meets Tryd.prog G Ji [.ptr 1000 0 0] (rdM 0 r) true (dv r.dg) (rdM 1 r.dg') := by
  refine Jc mix JqO ⟨by simp [rdM], by simp, by simp [rdM]⟩ ?_
  have h1 : (32 : Nat) ≤ maxLen := by decide
  have h3 := r.at_le 32
  have h4 : (r.got 32).length ≤ 32 := r.got_le 32
  have h5 : (List.take (r.got 32).length (List.drop (r.at_ 32) ((r.skip 32).pre ++ (r.skip 32).s))) = r.got 32 := by rw [Rd.at_drop]; simp
  have h6 : splice (B (zeros 32)) 0 (B (r.got 32)) = B r.dg.bs := JGJ 32 (r.got 32)
  simp [h1]
  refine Ja (Jjn r 32) ?_ ?_
  · simp [rdM]
  simp [rdM, h3, h4, h5, h6]
  refine Jb (.inr rfl) ?_
  simp [Rd.dg']
theorem JT {G : Nat → Option AV} (r : Rd) (lo hi : Int) : Meets Tryd.prog G Jd [.ptr 1000 0 0, .v (.int .i64 lo), .v (.int .i64 hi)] (rdM 0 r) true (.v (.int .i64 (r.inn lo hi))) (rdM 1 (r.inn' lo hi)) := by
  refine Jc mix JDa ⟨by simp [rdM], by simp, by simp [rdM]⟩ ?_
  simp
  refine Ja (Jjk r) ?_ ?_
  · simp [rdM]
  simp [rdM]
  by_cases h1 : lo ≤ r.num
  · by_cases h2 : r.num ≤ hi
    · cases hb : r.num'.bad
      · simp [h1, h2]
        refine Jb (.inr rfl) ?_
        simp [Rd.inn, Rd.inn', Rd.inOk, h1, h2, hb]
      · simp [h1, h2]
        refine Jb (.inr rfl) ?_
        simp [Rd.inn, Rd.inn', Rd.inOk, hb, Rd.fault]
    · simp [h1, h2]
      refine Jb (.inr rfl) ?_
      simp [Rd.inn, Rd.inn', Rd.inOk, h2, Rd.fault]
  · simp [h1]
    refine Jb (.inr rfl) ?_
    simp [Rd.inn, Rd.inn', Rd.inOk, h1, Rd.fault]
theorem JNX {G : Nat → Option AV} (r : Rd) : Meets Tryd.prog G J9 [.ptr 1000 0 0] (rdM 0 r) true (.v (.bool r.done)) (rdM 1 r) := by
  refine Jc mix JBm ⟨by simp [rdM], by simp, by simp [rdM]⟩ ?_
  simp
  refine Ja (J8 r) ?_ ?_
  · simp [rdM]
  cases hb : r.bad
  · simp [rdM]
    refine Jb (.inr rfl) ?_
    simp [Rd.done, hb]
  · simp [rdM]
    refine Jb (.inr rfl) ?_
    simp [Rd.done, hb]
end Go.Proofs.YtjlmpdbagmdbiaaDoor.WL
end
section
namespace Go.Proofs.YtjlmpdbagmdbiaaDoor.WL
open Go
set_option maxHeartbeats 4000000
def rdT (g : Nat) (r : Rd) : List (Nat × Loc) := [(1000, .var 0 (.node [.row 1092000 1 g r.pre.length r.s.length, .v (.bool r.bad)])), (1092000, .rows g 1 (B (r.pre ++ r.s)))]
theorem JBr {G : Nat → Option AV} (r : Rd) (mx : Int) : Meets Tryd.prog G JS [.ptr 1000 0 0, .v (.int .i64 mx)] (rdM 0 r) true (.v (.string (mkS (r.text mx)))) (rdM 1 (r.text' mx)) := by
  refine Jc mix Jzk ⟨by simp [rdM], by simp, by simp [rdM]⟩ ?_
  simp
  refine Ja (Jjn r 4) ?_ ?_
  · simp [rdM]
  simp [rdM]
  refine go_up (r.got 4).length (fun _ _ => True) (fun j (_ : Unit) c => ⟨[(0, .ptr 1000 0 0), (1, .v (.int .i64 mx)), (5, .v (.int .i64 (beVal ((r.got 4).take j) : Nat))), (9, .row 1092000 1 5 (r.at_ 4) (r.got 4).length), (10, .v (.int .i64 ((r.got 4).length : Nat))), (11, .v (.int .i64 (j : Nat)))], rdT 5 (r.skip 4), c⟩)
    () _ (Weak.refl _) trivial ?_ ?_
  · intro j _ c hj _
    have h8 : (r.got 4).length ≤ 4 := r.got_le 4
    have hw : IntKind.i64.wrap ((j : Int) + 1) = ((j + 1 : Nat) : Int) := Je (by omega)
    have hlt : beVal ((r.got 4).take j) < 2 ^ 24 := Nat.lt_of_lt_of_le (Jgo _) (by
      rw [List.length_take]
      exact Nat.le_trans (Nat.pow_le_pow_right (by omega) (show min j (r.got 4).length ≤ 3 by omega)) (by decide))
    have hb := JJV (beVal ((r.got 4).take j)) (r.got 4)[j] (by omega)
    have hu := (r.got 4)[j].toNat_lt
    rw [Jq (n := ((beVal ((r.got 4).take j) * 256 + (r.got 4)[j].toNat : Nat) : Int)) (by omega), ← JbL _ _ hj] at hb
    have hget := r.at_get 4 j hj
    have hle := r.at_le 4
    simp [rdT, hj, hget, hw, hb]
    exact ⟨(), _, Weak.refl _, trivial⟩
  · intro _ c _
    have h3 := (r.skip 4).at_le (r.len mx)
    have h5 : (List.take ((r.skip 4).got (r.len mx)).length (List.drop ((r.skip 4).at_ (r.len mx)) (((r.skip 4).skip (r.len mx)).pre ++ ((r.skip 4).skip (r.len mx)).s))) = (r.skip 4).got (r.len mx) := by rw [Rd.at_drop]; simp
    by_cases hm : mx < (beVal (r.got 4) : Int)
    · have hl : r.len mx = -1 := by simp [Rd.len, hm]
      rw [hl] at h3 h5
      simp [rdT, hm]
      refine Ja (Jjn (r.skip 4) (-1)) ?_ ?_
      · simp [rdM]
      simp [rdM, h3, h5]
      refine Jb (.inr rfl) ?_
      simp [Rd.text, Rd.text', hl]
    · have hl : r.len mx = beVal (r.got 4) := by simp [Rd.len, hm]
      rw [hl] at h3 h5
      simp [rdT, hm]
      refine Ja (Jjn (r.skip 4) (beVal (r.got 4) : Nat)) ?_ ?_
      · simp [rdM]
      simp [rdM, h3, h5]
      refine Jb (.inr rfl) ?_
      simp [Rd.text, Rd.text', hl]
end Go.Proofs.YtjlmpdbagmdbiaaDoor.WL
end
section
namespace Go.Proofs.YtjlmpdbagmdbiaaDoor.WL
open Go
set_option maxHeartbeats 4000000
def wrM (g : Nat) (bs : Bytes) : List (Nat × Loc) := [(1000, .var 0 (.node [.row 2000 1 g 0 bs.length])), (2000, .rows g 1 (B bs))]
theorem Jhg {G : Nat → Option AV} (bs : Bytes) (hb : bs.length ≤ 67108864) :
    Meets Tryd.prog G Jt [.ptr 1000 0 0] (wrM 0 bs) true (.row 3000 1 1 0 bs.length) (wrM 1 bs ++ [(3000, .rows 1 1 (B bs))]) := by
  refine Jc mix Jvm ⟨by simp [wrM], by simp [wrM], by simp [wrM]⟩ ?_
  have h1 : fitsB bs.length 1 := fits (by omega) (by omega)
  simp [wrM, h1]
  refine Jb (.inr rfl) ?_
  simp
abbrev WrA := Nat × Nat × Bytes
def wrA (a : WrA) : List (Nat × Loc) := [(1000, .var 0 (.node [.row 2000 1 a.1 0 a.2.1])), (2000, .rows a.1 1 (B a.2.2))]
theorem J0 {G : Nat → Option AV} (bs : Bytes) (ns : List Int) (hb : bs.length + 8 * ns.length ≤ 67108864) :
    Meets Tryd.prog G Jm [.ptr 1000 0 0, .sl 1 (I64 ns)] (wrM 0 bs) true (.tup []) (wrM 1 (bs ++ nums ns)) := by
  refine Jc mix JBt ⟨by simp [wrM], by simp, by simp [wrM]⟩ ?_
  simp [wrM]
  refine go_up ns.length (fun j (a : WrA) => match a with | (_, n, x) => n = x.length ∧ x = bs ++ nums (ns.take j)) (fun j a c => ⟨[(0, .ptr 1000 0 0), (9, .sl 1 (I64 ns)), (10, .v (.int .i64 (ns.length : Nat))), (11, .v (.int .i64 (j : Nat)))], wrA a, c⟩)
    (0, bs.length, bs) _ (Weak.refl _) (by simp [nums]) ?_ ?_
  · rintro j ⟨g, n, L⟩ c hj ⟨rfl, hL⟩
    simp [hj, wrA]
    refine go_up 8 (fun t (a : WrA) => match a with | (_, n, x) => n = x.length ∧ x = L ++ (be8 ns[j]).take t) (fun t a c => ⟨[(0, .ptr 1000 0 0), (5, .v (.int .i64 ns[j])), (6, .v (.int .i64 (56 - 8 * (t : Int)))), (9, .sl 1 (I64 ns)), (10, .v (.int .i64 (ns.length : Nat))), (11, .v (.int .i64 (j : Nat)))], wrA a, c⟩)
      (g, L.length, L) _ (Weak.refl _) (by simp) ?_ ?_
    · rintro t ⟨g', n', L'⟩ c' ht ⟨rfl, hL'⟩
      have h8 : 8 * (t : Int) ≤ 56 := by omega
      have h0 : (0 : Int) ≤ 56 - 8 * (t : Int) := by omega
      have hmin : min (56 - 8 * (t : Int)).toNat 64 = 56 - 8 * t := by omega
      have hw : IntKind.i64.wrap (56 - 8 * (t : Int) - 8) = 56 - 8 * ((t + 1 : Nat) : Int) := by rw [Jq (by omega)]; omega
      have hLl : L'.length ≤ 67108863 := by
        rw [hL', hL]
        simp only [List.length_append, Jg, List.length_take, Jcs]
        omega
      have hm1 : fitsB (L'.length + 1) 1 := fits (by omega) (by omega)
      simp [wrA, h8, hmin, hw, hm1, bv_u8, JRJ _ _ ht, JT9]
      exact ⟨(_, _, _), _, (Weak.keep [1000, 2000] _ _ _).trans (Weak.refl _), by simp, by rw [hL', JPN _ _ ht, List.append_assoc]⟩
    · rintro ⟨g', n', L'⟩ c' ⟨rfl, hL'⟩
      have hw : IntKind.i64.wrap ((j : Int) + 1) = ((j + 1 : Nat) : Int) := Je (by omega)
      simp [wrA, hw]
      exact ⟨(_, _, _), _, Weak.refl _, rfl, by rw [hL', hL, JGN _ _ hj, List.append_assoc, List.take_of_length_le (l := be8 ns[j]) (by simp)]⟩
  · rintro ⟨g, n, L⟩ c ⟨rfl, hL⟩
    have : L = bs ++ nums ns := by rw [hL]; simp
    subst this
    simp [wrA]
    refine Jb (.inl rfl) ?_
    simp
theorem JX {G : Nat → Option AV} (bs : Bytes) (ds : List Dg) (hb : bs.length + 32 * ds.length ≤ 67108864) :
    Meets Tryd.prog G Jl [.ptr 1000 0 0, .sl 32 (Dgs ds)] (wrM 0 bs) true (.tup []) (wrM 1 (bs ++ flatD ds)) := by
  refine Jc mix JqL ⟨by simp [wrM], by simp, by simp [wrM]⟩ ?_
  simp [wrM]
  refine go_up ds.length (fun j (a : WrA) => match a with | (_, n, x) => n = x.length ∧ x = bs ++ flatD (ds.take j)) (fun j a c => ⟨[(0, .ptr 1000 0 0), (8, .sl 32 (Dgs ds)), (9, .v (.int .i64 (ds.length : Nat))), (10, .v (.int .i64 (j : Nat)))], wrA a, c⟩)
    (0, bs.length, bs) _ (Weak.refl _) (by simp [flatD]) ?_ ?_
  · rintro j ⟨g, n, L⟩ c hj ⟨rfl, hL⟩
    have hLl : L.length + 32 ≤ 67108864 := by rw [hL, List.length_append, Jbc, List.length_take]; omega
    have hm1 : fitsB (L.length + 32) 1 := fits (by omega) (by omega)
    have hw : IntKind.i64.wrap ((j : Int) + 1) = ((j + 1 : Nat) : Int) := Je (by omega)
    simp [wrA, hj, hm1, hw]
    exact ⟨(_, _, _), _, (Weak.keep [1000, 2000] _ _ _).trans (Weak.refl _), by simp, by rw [hL, JE9 _ _ hj, List.append_assoc]⟩
  · rintro ⟨g, n, L⟩ c ⟨rfl, hL⟩
    have : L = bs ++ flatD ds := by rw [hL]; simp
    subst this
    simp [wrA]
    refine Jb (.inl rfl) ?_
    simp
theorem JJd {G : Nat → Option AV} (bs : Bytes) (ss : List Bytes) (hb : bs.length + (txts ss).length ≤ 67108864) (hn : ss.length ≤ 67108864) :
    Meets Tryd.prog G Jbr [.ptr 1000 0 0, .sl 1 (Strs ss)] (wrM 0 bs) true (.tup []) (wrM 1 (bs ++ txts ss)) := by
  refine Jc mix JAJ ⟨by simp [wrM], by simp, by simp [wrM]⟩ ?_
  simp [wrM]
  refine go_up ss.length (fun j (a : WrA) => match a with | (_, n, x) => n = x.length ∧ x = bs ++ txts (ss.take j)) (fun j a c => ⟨[(0, .ptr 1000 0 0), (9, .sl 1 (Strs ss)), (10, .v (.int .i64 (ss.length : Nat))), (11, .v (.int .i64 (j : Nat)))], wrA a, c⟩)
    (0, bs.length, bs) _ (Weak.refl _) (by simp [txts]) ?_ ?_
  · rintro j ⟨g, n, L⟩ c hj ⟨rfl, hL⟩
    have hsz := JGd ss (j + 1)
    rw [JGL _ _ hj, List.length_append, Jqz] at hsz
    have hLl : L.length + (4 + ss[j].length) ≤ 67108864 := by rw [hL, List.length_append]; omega
    have hm1 : fitsB (L.length + 4) 1 ∧ fitsB (L.length + 4 + ss[j].length) 1 := ⟨fits (by omega) (by omega), fits (by omega) (by omega)⟩
    have hw : IntKind.i64.wrap ((j : Int) + 1) = ((j + 1 : Nat) : Int) := Je (by omega)
    simp [wrA, hj, hm1, hw, bv_u8]
    exact ⟨(_, _, _), _, (Weak.keep [1000, 2000] _ _ _).trans (Weak.refl _), by simp; omega, by rw [hL, JGL _ _ hj]; simp [txt, be4]⟩
  · rintro ⟨g, n, L⟩ c ⟨rfl, hL⟩
    have : L = bs ++ txts ss := by rw [hL]; simp
    subst this
    simp [wrA]
    refine Jb (.inl rfl) ?_
    simp
end Go.Proofs.YtjlmpdbagmdbiaaDoor.WL
end
section
namespace Go.Proofs.YtjlmpdbagmdbiaaDoor.WL
open Go
set_option maxHeartbeats 4000000
variable {G : Nat → Option AV}
theorem JKl (bs : Bytes) (s : Sig) (h : s.ok = false) : Meets Tryd.prog G JbK [.ptr 1000 0 0, s.avS] (wrM 0 bs) true (.v (.bool false)) (wrM 1 bs) := by
  refine Jc mix JC0 ⟨by simp [wrM], by simp, by simp [wrM]⟩ ?_
  simp only [Sig.ok, decide_eq_false_iff_not] at h
  by_cases h1 : s.op.length = 32
  · by_cases h2 : s.sh.length = 32
    · have h3 : 6 < s.path.length := by omega
      have h3i : (6 : Int) < (s.path.length : Nat) := by omega
      simp [Sig.avS, wrM, h1, h2, h3, h3i]
      refine Jb (.inr rfl) ?_
      simp
    · have h2i : ¬ (s.sh.length : Int) = 32 := by omega
      simp [Sig.avS, wrM, h1, h2, h2i]
      refine Jb (.inr rfl) ?_
      simp
  · have h1i : ¬ (s.op.length : Int) = 32 := by omega
    simp [Sig.avS, wrM, h1, h1i]
    refine Jb (.inr rfl) ?_
    simp
theorem JCQ (bs : Bytes) (s : Sig) (h : s.ok = true) (hb : bs.length ≤ 50000000) : Meets Tryd.prog G JbK [.ptr 1000 0 0, s.avS] (wrM 0 bs) true (.v (.bool true)) (wrM 1 (bs ++ s.bytes)) := by
  refine Jc mix JC0 ⟨by simp [wrM], by simp, by simp [wrM]⟩ ?_
  simp only [Sig.ok, decide_eq_true_eq] at h
  obtain ⟨h1, h2, h3⟩ := h
  have h1i : (s.op.length : Int) = 32 := by omega
  have h2i : (s.sh.length : Int) = 32 := by omega
  have h3i : ¬ (6 : Int) < (s.path.length : Nat) := by omega
  have h3n : ¬ 6 < s.path.length := by omega
  have hbts : s.bytes = nums [s.leaf, (s.path.length : Int)] ++ (flatD s.op ++ (flatD s.sh ++ flatD s.path)) := rfl
  rw [hbts]
  have n1 := Jg [s.leaf, (s.path.length : Int)]
  have n2 := Jbc s.op
  have n3 := Jbc s.sh
  simp only [List.length_cons, List.length_nil] at n1
  have m1 := J0 (G := G) bs [s.leaf, (s.path.length : Int)] (by simp; omega)
  generalize nums [s.leaf, (s.path.length : Int)] = x1 at *
  have m2 := JX (G := G) (bs ++ x1) s.op (by simp only [List.length_append]; omega)
  generalize flatD s.op = x2 at *
  have m3 := JX (G := G) (bs ++ x1 ++ x2) s.sh (by simp only [List.length_append]; omega)
  generalize flatD s.sh = x3 at *
  have m4 := JX (G := G) (bs ++ x1 ++ x2 ++ x3) s.path (by simp only [List.length_append]; omega)
  generalize flatD s.path = x4 at *
  have e : bs ++ (x1 ++ (x2 ++ (x3 ++ x4))) = bs ++ x1 ++ x2 ++ x3 ++ x4 := by simp
  rw [e]
  generalize bs ++ x1 ++ x2 ++ x3 ++ x4 = y4 at *
  generalize bs ++ x1 ++ x2 ++ x3 = y3 at *
  generalize bs ++ x1 ++ x2 = y2 at *
  generalize bs ++ x1 = y1 at *
  simp [Sig.avS, wrM, h1, h2, h3n, h3i]
  refine Ja m1 ?_ ?_
  · simp [wrM, I64_2]
  simp [wrM, I64_2]
  refine Ja m2 ?_ ?_
  · simp [wrM]
  simp [wrM]
  refine Ja m3 ?_ ?_
  · simp [wrM]
  simp [wrM]
  refine Ja m4 ?_ ?_
  · simp [wrM]
  simp [wrM]
  refine Jb (.inr rfl) ?_
  simp
def kdM (c : Nat) (q : Rd) (leaf : Int) (o s p : List Dg) : List (Nat × Loc) :=
  [(2, .var c (.node [.v (.int .i64 0), .node [.v (.slice none 0 0), .v (.slice none 0 0)], .v (.slice none 0 0)])), (3, .var c (.node [.v (.int .i64 leaf), .node [.row 22 32 c 0 o.length, .row 34 32 c 0 s.length], .row 46 32 c 0 p.length])),
   (22, .rows c 32 (Dgs o)), (34, .rows c 32 (Dgs s)), (46, .rows c 32 (Dgs p)),
   (1000, .var 0 (.node [.row 2000 1 c q.pre.length q.s.length, .v (.bool q.bad)])), (2000, .rows c 1 (B (q.pre ++ q.s)))]
theorem JIe (r : Rd) : Meets Tryd.prog G Jib [.ptr 1000 0 0] (rdM 0 r) true (Sig.avR 3000 4000 5000 1 r.sig) (rdM 1 r.sig' ++ Sig.rows 3000 4000 5000 1 r.sig) := by
  refine Jc mix JIu ⟨by simp [rdM, Sig.rows], by simp [rdM, Sig.rows, Sig.avR], by simp [rdM, Sig.rows]⟩ ?_
  obtain ⟨hN, hN2⟩ := r.sN_eq
  have m1 := Jjk (G := G) r
  have m2 := JT (G := G) r.num' 0 6
  rw [← hN] at m2
  have m3 := J8 (G := G) r.s2
  have hs2 : r.num'.inn' 0 6 = r.s2 := rfl
  rw [hs2] at m2
  cases hb : r.s2.bad
  · have hsig' : r.sig' = ((r.s2.ds' 32).ds' 32).ds' r.sN := rfl
    have hsig : r.sig = if (((r.s2.ds' 32).ds' 32).ds' r.sN).bad = true then Sig.zero else ⟨r.num, r.s2.ds 32, (r.s2.ds' 32).ds 32, ((r.s2.ds' 32).ds' 32).ds r.sN⟩ := rfl
    rw [hsig', hsig]
    generalize r.sN = N at *
    generalize r.num' = r1 at *
    generalize r.num = lf at *
    generalize r.s2 = r2 at *
    obtain ⟨M, hM⟩ : ∃ M, M = 32 := ⟨_, rfl⟩
    rw [← hM]
    simp [rdM]
    refine Ja m1 ?_ ?_
    · simp [rdM]
    simp [rdM]
    refine Ja m2 ?_ ?_
    · simp [rdM]
    simp [rdM]
    refine Ja m3 ?_ ?_
    · simp [rdM]
    simp [rdM, hb]
    refine go_up M (fun j (_ : Unit) => True) (fun j _ c => ⟨[(0, .ptr 1000 0 0), (2, .ptr 2 c 0), (3, .ptr 3 c 0), (4, .v (.int .i64 (N : Nat))), (14, .v (.int .i64 (j : Nat)))], kdM c (r2.ds' j) lf (r2.ds j) [] [], c + 1⟩) () _ (Weak.re0 1000 (by simp [kdM, Rd.ds, Rd.ds', hb])) trivial ?_ ?_
    · intro j _ c hj _
      have hw : IntKind.i64.wrap ((j : Int) + 1) = ((j + 1 : Nat) : Int) := Je (by omega)
      have f1 : fitsB (j + 1) 32 := fits (by omega) (by omega)
      have hj32 : (j : Int) < 32 := by omega
      have e1 : r2.ds (j + 1) = r2.ds j ++ [(r2.ds' j).dg] := rfl
      have e2 : r2.ds' (j + 1) = (r2.ds' j).dg' := rfl
      have hl := r2.ds_length j
      generalize r2.ds j = x at *
      generalize r2.ds' j = q at *
      have m5 := JV (G := G) q
      generalize q.dg' = q' at *
      generalize q.dg = t at *
      simp [hj32, kdM]
      refine Ja m5 ?_ ?_
      · simp [rdM]
      simp [rdM, f1, hl, hw, JqD]
      exact ⟨(), _, Weak.re0 1000 (by simp [kdM, e1, e2, hl]), trivial⟩
    · intro _ c _
      have hM32 : ¬ (M : Int) < 32 := by omega
      generalize hq2 : r2.ds' M = r3 at *
      have hol := r2.ds_length M
      generalize r2.ds M = o at *
      simp [kdM, hM32]
      refine go_up M (fun j (_ : Unit) => True) (fun j _ c => ⟨[(0, .ptr 1000 0 0), (2, .ptr 2 c 0), (3, .ptr 3 c 0), (4, .v (.int .i64 (N : Nat))), (26, .v (.int .i64 (j : Nat)))], kdM c (r3.ds' j) lf o (r3.ds j) [], c + 1⟩) () _ (Weak.re0 1000 (by simp [kdM, Rd.ds, Rd.ds'])) trivial ?_ ?_
      · intro j _ c hj _
        have hw : IntKind.i64.wrap ((j : Int) + 1) = ((j + 1 : Nat) : Int) := Je (by omega)
        have f1 : fitsB (j + 1) 32 := fits (by omega) (by omega)
        have hj32 : (j : Int) < 32 := by omega
        have e1 : r3.ds (j + 1) = r3.ds j ++ [(r3.ds' j).dg] := rfl
        have e2 : r3.ds' (j + 1) = (r3.ds' j).dg' := rfl
        have hl := r3.ds_length j
        generalize r3.ds j = x at *
        generalize r3.ds' j = q at *
        have m5 := JV (G := G) q
        generalize q.dg' = q' at *
        generalize q.dg = t at *
        simp [hj32, kdM]
        refine Ja m5 ?_ ?_
        · simp [rdM]
        simp [rdM, f1, hl, hw, JqD]
        exact ⟨(), _, Weak.re0 1000 (by simp [kdM, e1, e2, hl]), trivial⟩
      · intro _ c _
        have hsl := r3.ds_length M
        generalize hq3 : r3.ds' M = r4 at *
        generalize r3.ds M = s at *
        simp [kdM, hM32]
        refine go_up N (fun j (_ : Unit) => True) (fun j _ c => ⟨[(0, .ptr 1000 0 0), (2, .ptr 2 c 0), (3, .ptr 3 c 0), (38, .v (.int .i64 (N : Nat))), (39, .v (.int .i64 (j : Nat)))], kdM c (r4.ds' j) lf o s (r4.ds j), c + 1⟩) () _ (Weak.re0 1000 (by simp [kdM, Rd.ds, Rd.ds'])) trivial ?_ ?_
        · intro j _ c hj _
          have hw : IntKind.i64.wrap ((j : Int) + 1) = ((j + 1 : Nat) : Int) := Je (by omega)
          have f1 : fitsB (j + 1) 32 := fits (by omega) (by omega)
          have e1 : r4.ds (j + 1) = r4.ds j ++ [(r4.ds' j).dg] := rfl
          have e2 : r4.ds' (j + 1) = (r4.ds' j).dg' := rfl
          have hl := r4.ds_length j
          generalize r4.ds j = x at *
          generalize r4.ds' j = q at *
          have m5 := JV (G := G) q
          generalize q.dg' = q' at *
          generalize q.dg = t at *
          simp [hj, kdM]
          refine Ja m5 ?_ ?_
          · simp [rdM]
          simp [rdM, f1, hl, hw, JqD]
          exact ⟨(), _, Weak.re0 1000 (by simp [kdM, e1, e2, hl]), trivial⟩
        · intro _ c _
          have hpl := r4.ds_length N
          generalize r4.ds' N = r5 at *
          generalize r4.ds N = p at *
          have m6 := J8 (G := G) r5
          simp [kdM]
          refine Ja m6 ?_ ?_
          · simp [rdM]
          cases hb5 : r5.bad
          · simp [rdM, hb5]
            refine Jb (.inr rfl) ?_
            simp [Sig.avR, Sig.rows, hb5]
          · simp [rdM, hb5]
            refine Jb (.inr rfl) ?_
            simp [Sig.avR, Sig.rows, Sig.zero, hb5]
  · obtain ⟨e1, e2⟩ := r.sig_fault hb
    have e3 : r.sig = Sig.zero := by unfold Rd.sig; rw [e2]; rfl
    rw [e2, e3]
    rw [e1] at m2 m3 hb
    generalize r.sN = N at *
    generalize r.num' = r1 at *
    generalize r.num = lf at *
    simp [rdM]
    refine Ja m1 ?_ ?_
    · simp [rdM]
    simp [rdM]
    refine Ja m2 ?_ ?_
    · simp [rdM]
    simp [rdM]
    refine Ja m3 ?_ ?_
    · simp [rdM]
    simp [rdM, hb]
    refine Jb (.inr rfl) ?_
    simp [Sig.avR, Sig.rows, Sig.zero, hb]
end Go.Proofs.YtjlmpdbagmdbiaaDoor.WL
end
section
namespace Go.Proofs.YtjlmpdbagmdbiaaDoor.WL
open Go
set_option maxHeartbeats 4000000
def rfM (r : Rd) : List (Nat × Loc) := [(1000, .var 0 (.node [.v (.string (mkS r.s)), .v (.bool r.bad)]))]
theorem Jbe {G : Nat → Option AV} (r : Rd) (k : Int) : Meets Tryd.prog G Jy [.ptr 1000 0 0, .v (.int .i64 k)] (rfM r) true (.v (.string (mkS (r.got k)))) (rfM (r.skip k)) := by
  refine Jc mix JAV ⟨by simp [rfM], by simp, by simp [rfM]⟩ ?_
  cases hok : r.ok k with
  | true =>
    have h := hok
    simp only [Rd.ok, Bool.and_eq_true, Bool.not_eq_true', decide_eq_true_eq] at h
    obtain ⟨⟨h1, h2⟩, h3⟩ := h
    have h4 : ¬ (k < 0) := by omega
    have h5 : ¬ ((r.s.length : Int) < k) := by omega
    obtain ⟨n, rfl⟩ := Int.eq_ofNat_of_zero_le h2
    have h6 : n ≤ r.s.length := by omega
    have h7 : r.s.take r.s.length = r.s := by simp
    simp [rfM, h1, h3, h4, h5, h6, h7, Rd.got, Rd.skip, hok]
    refine Jb (.inr rfl) ?_
    simp
  | false =>
    have h : r.bad = true ∨ k < 0 ∨ (r.s.length : Int) < k := by
      simp only [Rd.ok] at hok
      cases hb : r.bad
      · simp [hb] at hok; omega
      · simp
    cases hb : r.bad
    · simp [hb] at h
      by_cases h0 : k < 0
      · simp [rfM, hb, h0, Rd.got, Rd.skip, hok]
        refine Jb (.inr rfl) ?_
        simp [Rd.fault]
      · have h1 : (r.s.length : Int) < k := by omega
        simp [rfM, hb, h0, h1, Rd.got, Rd.skip, hok]
        refine Jb (.inr rfl) ?_
        simp [Rd.fault]
    · simp [rfM, hb, Rd.got, Rd.skip, hok]
      refine Jb (.inr rfl) ?_
      simp [Rd.fault]
theorem Jgy {G : Nat → Option AV} (r : Rd) : Meets Tryd.prog G JB [.ptr 1000 0 0] (rfM r) true (.v (.int .i64 r.num)) (rfM r.num') := by
  refine Jc mix JC9 ⟨by simp [rfM], by simp, by simp [rfM]⟩ ?_
  simp
  refine Ja (Jbe r 8) ?_ ?_
  · simp [rfM]
  simp [rfM]
  have hz : IntKind.i64.wrap 0 = 0 := by decide
  refine go_up (r.got 8).length (fun _ _ => True) (fun j (_ : Unit) c => ⟨[(3, .v (.string (mkS (r.got 8)))), (4, .v (.int .i64 (IntKind.i64.wrap (beVal ((r.got 8).take j) : Nat)))), (5, .v (.int .i64 (j : Nat)))], rfM (r.skip 8), c⟩)
    () _ (by simp [beVal, hz, rfM]; exact Weak.refl _) trivial ?_ ?_
  · intro j _ c hj _
    have h8 : (r.got 8).length ≤ 8 := r.got_le 8
    have hw : IntKind.i64.wrap ((j : Int) + 1) = ((j + 1 : Nat) : Int) := Je (by omega)
    have hlt : beVal ((r.got 8).take j) < 2 ^ 56 := Nat.lt_of_lt_of_le (Jgo _) (by
      rw [List.length_take]
      exact Nat.le_trans (Nat.pow_le_pow_right (by omega) (show min j (r.got 8).length ≤ 7 by omega)) (by decide))
    have hb := JJV (beVal ((r.got 8).take j)) (r.got 8)[j] hlt
    have hi : IntKind.i64.wrap (beVal ((r.got 8).take j) : Nat) = (beVal ((r.got 8).take j) : Nat) := Jq (by omega)
    rw [← JbL _ _ hj] at hb
    simp [rfM, hj, hw, hi, hb]
    exact ⟨(), _, Weak.refl _, trivial⟩
  · intro _ c _
    simp [rfM]
    refine Jb (.inr rfl) ?_
    simp [Rd.num, Rd.num']
theorem Jvv {G : Nat → Option AV} (r : Rd) (mx : Int) : Meets Tryd.prog G JW [.ptr 1000 0 0, .v (.int .i64 mx)] (rfM r) true (.v (.string (mkS (r.text mx)))) (rfM (r.text' mx)) := by
  refine Jc mix JAX ⟨by simp [rfM], by simp, by simp [rfM]⟩ ?_
  simp
  refine Ja (Jbe r 4) ?_ ?_
  · simp [rfM]
  simp [rfM]
  refine go_up (r.got 4).length (fun _ _ => True) (fun j (_ : Unit) c => ⟨[(0, .ptr 1000 0 0), (1, .v (.int .i64 mx)), (5, .v (.string (mkS (r.got 4)))), (6, .v (.int .i64 (beVal ((r.got 4).take j) : Nat))), (7, .v (.int .i64 (j : Nat)))], rfM (r.skip 4), c⟩)
    () _ (Weak.refl _) trivial ?_ ?_
  · intro j _ c hj _
    have h8 : (r.got 4).length ≤ 4 := r.got_le 4
    have hw : IntKind.i64.wrap ((j : Int) + 1) = ((j + 1 : Nat) : Int) := Je (by omega)
    have hlt : beVal ((r.got 4).take j) < 2 ^ 24 := Nat.lt_of_lt_of_le (Jgo _) (by
      rw [List.length_take]
      exact Nat.le_trans (Nat.pow_le_pow_right (by omega) (show min j (r.got 4).length ≤ 3 by omega)) (by decide))
    have hu := (r.got 4)[j].toNat_lt
    have hb : IntKind.i64.wrap (IntKind.i64.wrap ((beVal ((r.got 4).take j) : Nat) * 256) + IntKind.i64.wrap ((r.got 4)[j].toNat : Int)) = ((beVal ((r.got 4).take (j + 1)) : Nat) : Int) := by
      rw [JbL _ _ hj, Jq (n := ((r.got 4)[j].toNat : Int)) (by omega), Jq (n := (beVal ((r.got 4).take j) : Int) * 256) (by omega), Jq (by omega)]
      omega
    simp [rfM, hj, hw, hb]
    exact ⟨(), _, Weak.refl _, trivial⟩
  · intro _ c _
    by_cases hm : mx < (beVal (r.got 4) : Int)
    · have hl : r.len mx = -1 := by simp [Rd.len, hm]
      simp [rfM, hm]
      refine Ja (Jbe (r.skip 4) (-1)) ?_ ?_
      · simp [rfM]
      simp [rfM]
      refine Jb (.inr rfl) ?_
      simp [Rd.text, Rd.text', hl]
    · have hl : r.len mx = beVal (r.got 4) := by simp [Rd.len, hm]
      simp [rfM, hm]
      refine Ja (Jbe (r.skip 4) (beVal (r.got 4) : Nat)) ?_ ?_
      · simp [rfM]
      simp [rfM]
      refine Jb (.inr rfl) ?_
      simp [Rd.text, Rd.text', hl]
theorem J7 {G : Nat → Option AV} (r : Rd) : Meets Tryd.prog G Jn [.ptr 1000 0 0] (rfM r) true (dv r.dg) (rfM r.dg') := by
  refine Jc mix Jve ⟨by simp [rfM], by simp, by simp [rfM]⟩ ?_
  simp
  refine Ja (Jbe r 32) ?_ ?_
  · simp [rfM]
  simp [rfM]
  have h8 : (r.got 32).length ≤ 32 := r.got_le 32
  refine go_up (r.got 32).length (fun j (x : Bytes) => x = (r.got 32).take j ++ zeros (32 - j)) (fun j (x : Bytes) c => ⟨[(2, .ptr 2 2 0), (3, .ptr 3 3 0), (4, .v (.string (mkS (r.got 32)))), (5, .v (.int .i64 (j : Nat)))],
    [(2, .var 2 (.arr 1 (B (zeros 32)))), (3, .var 3 (.arr 1 (B x))), (1000, .var 0 (.node [.v (.string (mkS (r.skip 32).s)), .v (.bool (r.skip 32).bad)]))], c⟩) (zeros 32) _ (Weak.refl _) (by simp) ?_ ?_
  · intro j x c hj hx
    have hw : IntKind.i64.wrap ((j : Int) + 1) = ((j + 1 : Nat) : Int) := Je (by omega)
    have hl : x.length = 32 := by rw [hx]; simp; omega
    have hjx : j < x.length := by omega
    have hs : x.set j (r.got 32)[j] = (r.got 32).take (j + 1) ++ zeros (32 - (j + 1)) := by
      rw [hx]
      exact JiA _ 32 j hj h8
    have hj32 : (j : Int) < 32 := by omega
    have hjn : j < 32 := by omega
    simp [hj, hw, hl, hjx, hj32, hjn, B_set, Nat.mod_one]
    exact ⟨_, _, Weak.refl _, hs⟩
  · intro x c hx
    have hl : x.length = 32 := by rw [hx]; simp; omega
    have hd : x = r.dg.bs := by rw [hx]; simp [Rd.dg_bs]
    subst hd
    simp [hl]
    refine Jb (.inr rfl) ?_
    simp [hl, Rd.dg']
theorem JI {G : Nat → Option AV} (r : Rd) (lo hi : Int) : Meets Tryd.prog G Jf [.ptr 1000 0 0, .v (.int .i64 lo), .v (.int .i64 hi)] (rfM r) true (.v (.int .i64 (r.inn lo hi))) (rfM (r.inn' lo hi)) := by
  refine Jc mix JDV ⟨by simp [rfM], by simp, by simp [rfM]⟩ ?_
  simp
  refine Ja (Jgy r) ?_ ?_
  · simp [rfM]
  have hf : r.num'.skip (-1) = Rd.fault := by simp [Rd.skip, Rd.ok]
  have kk : (r.num'.bad = false ∧ lo ≤ r.num ∧ r.num ≤ hi) ∨ r.num'.bad = true ∨ (r.num'.bad = false ∧ r.num < lo) ∨ (r.num'.bad = false ∧ ¬ r.num < lo ∧ hi < r.num) := by
    cases r.num'.bad
    · simp; omega
    · simp
  rcases kk with ⟨hb, h1, h2⟩ | hb | ⟨hb, h1⟩ | ⟨hb, h1, h2⟩
  · have h3 : ¬ r.num < lo := by omega
    have h4 : ¬ hi < r.num := by omega
    simp [rfM, h3, h4, hb]
    refine Jb (.inr rfl) ?_
    simp [Rd.inn, Rd.inn', Rd.inOk, h1, h2, hb]
  · simp [rfM, hb]
    refine Ja (Jbe r.num' (-1)) ?_ ?_
    · simp [rfM, hb]
    simp [rfM, hf]
    refine Jb (.inr rfl) ?_
    simp [Rd.inn, Rd.inn', Rd.inOk, hb]
  · simp [rfM, h1, hb]
    refine Ja (Jbe r.num' (-1)) ?_ ?_
    · simp [rfM, hb]
    simp [rfM, hf]
    refine Jb (.inr rfl) ?_
    have h3 : ¬ lo ≤ r.num := by omega
    simp [Rd.inn, Rd.inn', Rd.inOk, h3]
  · simp [rfM, h1, h2, hb]
    refine Ja (Jbe r.num' (-1)) ?_ ?_
    · simp [rfM, hb]
    simp [rfM, hf]
    refine Jb (.inr rfl) ?_
    have h3 : ¬ r.num ≤ hi := by omega
    simp [Rd.inn, Rd.inn', Rd.inOk, h3]
theorem JR {G : Nat → Option AV} (r : Rd) : Meets Tryd.prog G Jj [.ptr 1000 0 0] (rfM r) true (.v (.bool !r.bad)) (rfM r) := by
  refine Jc mix JBh ⟨by simp [rfM], by simp, by simp [rfM]⟩ ?_
  simp [rfM]
  refine Jb (.inr rfl) ?_
  simp
theorem JL9 {G : Nat → Option AV} (r : Rd) : Meets Tryd.prog G Jcq [.ptr 1000 0 0] (rfM r) true (.v (.bool r.done)) (rfM r) := by
  refine Jc mix JDb ⟨by simp [rfM], by simp, by simp [rfM]⟩ ?_
  cases hb : r.bad
  · simp [rfM, hb]
    refine Jb (.inr rfl) ?_
    simp [Rd.done, hb, JIk]
  · simp [rfM, hb]
    refine Jb (.inr rfl) ?_
    simp [Rd.done, hb]
end Go.Proofs.YtjlmpdbagmdbiaaDoor.WL
end
section
namespace Go.Proofs.YtjlmpdbagmdbiaaDoor.WL
open Go
set_option maxHeartbeats 4000000
theorem JRv (n : Int) (j : Nat) (h : j < 8) : (zeros (8 - j) ++ (be8 n).drop (8 - j)).set (7 - j) (u8 (n.fdiv (2 ^ (8 * j)))) = zeros (8 - (j + 1)) ++ (be8 n).drop (8 - (j + 1)) := by
  rw [Int.fdiv_eq_ediv_of_nonneg _ (Int.le_of_lt (Int.pow_pos (by decide)))]
  match j, h with
  | 0, _ => simp [be8, zeros]
  | 1, _ => simp [be8, zeros]
  | 2, _ => simp [be8, zeros]
  | 3, _ => simp [be8, zeros]
  | 4, _ => simp [be8, zeros]
  | 5, _ => simp [be8, zeros]
  | 6, _ => simp [be8, zeros]
  | 7, _ => simp [be8, zeros]
theorem Ju {G : Nat → Option AV} (n : Int) : Meets Tryd.prog G JC [.v (.int .i64 n)] [] true (.v (.string (mkS (be8 n)))) [] := by
  refine Jc mix JNz ⟨by simp, by simp, by simp⟩ ?_
  simp
  refine go_up 8 (fun j (x : Bytes) => x = zeros (8 - j) ++ (be8 n).drop (8 - j)) (fun j x c => ⟨[(0, .v (.int .i64 n)), (3, .ptr 3 3 0), (4, .v (.int .i64 (j : Nat)))], [(3, .var 3 (.arr 1 (B x)))], c⟩)
    (zeros 8) _ (Weak.refl _) (by simp) ?_ ?_
  · intro j x c hj hx
    have hw : IntKind.i64.wrap ((j : Int) + 1) = ((j + 1 : Nat) : Int) := Je (by omega)
    have hw2 : IntKind.i64.wrap (7 - (j : Int)) = ((7 - j : Nat) : Int) := by rw [Jq (by omega)]; omega
    have hw3 : IntKind.i64.wrap (8 * (j : Int)) = 8 * (j : Int) := Jq (by omega)
    have hw4 : IntKind.u64.wrap (8 * (j : Int)) = 8 * (j : Int) := JvL (by omega)
    have h0 : 0 ≤ 8 * (j : Int) := by omega
    have hj8 : (j : Int) < 8 := by omega
    have hxl : x.length = 8 := by rw [hx]; simp
    have hmin : min (8 * (j : Int)).toNat 64 = 8 * j := by omega
    have hs := JRv n j hj
    rw [← hx] at hs
    have h7 : 7 - j < 8 := by omega
    have h7' : (7 - j : Nat) < (8 : Int) := by omega
    simp [hw, hw2, hw3, hw4, h0, hj8, hxl, hmin, h7, h7', bv_u8, B_set, Nat.mod_one]
    exact ⟨_, _, Weak.refl _, hs⟩
  · intro x c hx
    have hxl : x = be8 n := by rw [hx]; simp [zeros]
    subst hxl
    have ht : List.take 8 (be8 n) = be8 n := List.take_of_length_le (by simp)
    simp [ht]
    refine Jb (.inr rfl) ?_
    simp
theorem JZ {G : Nat → Option AV} (d : Dg) : Meets Tryd.prog G JP [dv d] [] true (.v (.string (mkS d.bs))) [] := by
  refine Jc mix JGj ⟨by simp, by simp, by simp⟩ ?_
  simp
  refine Jb (.inr rfl) ?_
  simp
theorem Jmc {G : Nat → Option AV} (s : Bytes) (hs : s.length < 4294967296) : Meets Tryd.prog G Jg2 [.v (.string (mkS s))] [] true (.v (.string (mkS (txt s)))) [] := by
  refine Jc mix JKw ⟨by simp, by simp, by simp⟩ ?_
  simp
  refine Ja (Ju s.length) ?_ ?_
  · simp
  have h : 4 + s.length ≤ 9223372036854775807 := by omega
  have ht : List.take 8 (be8 s.length) = be8 s.length := List.take_of_length_le (by simp)
  simp [h, ht, JPw]
  refine Jb (.inr rfl) ?_
  simp [txt]
end Go.Proofs.YtjlmpdbagmdbiaaDoor.WL
end
