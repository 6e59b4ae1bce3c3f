
import Derived.Test.YtjlmpdbagmdbiaaDoorWm10
section
namespace Go.Proofs.YtjlmpdbagmdbiaaDoor.WL
open Go
set_option maxHeartbeats 4000000
attribute [local irreducible] comp hb sha leafD pairD
theorem JL3 (root leaf : Dg) (at_ count : Int) (path : List Dg) (h : at_ < 0 ∨ count ≤ at_) : Meets Tryd.prog Gt Jgv [dv root, dv leaf, .v (.int .i64 at_), .v (.int .i64 count), .sl 32 (Dgs path)] [] true (.v (.bool false)) [] := by
  refine Jc mix JBR ⟨by simp, by simp, by simp⟩ ?_
  by_cases c1 : at_ < 0
  · simp [c1]
    refine Jb (.inr rfl) ?_
    simp
  · have c2 : count ≤ at_ := by omega
    simp [c1, c2]
    refine Jb (.inr rfl) ?_
    simp
theorem JGb (root leaf : Dg) (at_ count : Nat) (path : List Dg) (h : at_ < count) (hc : count < 9223372036854775808) :
    Meets Tryd.prog Gt Jgv [dv root, dv leaf, .v (.int .i64 (at_ : Nat)), .v (.int .i64 (count : Nat)), .sl 32 (Dgs path)] [] true (.v (.bool (checkD root leaf at_ count path))) [] := by
  refine Jc mix JBR ⟨by simp, by simp, by simp⟩ ?_
  have c0 : ¬ (at_ : Int) < 0 := by omega
  have c1 : ¬ (count : Int) ≤ (at_ : Nat) := by omega
  have c2 : ¬ count ≤ at_ := by omega
  simp [c0, c1, c2]
  refine go_wh (fun a : Dg × Nat × Nat × List Dg => a.2.2.1) (fun a => a.2.1 < a.2.2.1 ∧ a.2.2.1 < 9223372036854775808 ∧ checkD root a.1 a.2.1 a.2.2.1 a.2.2.2 = checkD root leaf at_ count path)
    (fun a c => ⟨[(2, .v (.int .i64 (a.2.1 : Nat))), (3, .v (.int .i64 (a.2.2.1 : Nat))), (4, .sl 32 (Dgs a.2.2.2)), (5, .ptr 5 c 0), (6, .ptr 6 c 0)], [(5, .var c (dv root)), (6, .var c (dv a.1))], c + 1⟩) (leaf, at_, count, path) _ (Weak.re (by simp)) ⟨h, hc, rfl⟩ ?_
  rintro ⟨lf, i, n, p⟩ c ⟨hi, hn, hr⟩
  simp only at hi hn hr
  rw [← hr]
  by_cases h1 : 1 < n
  · have c3 : (1 : Int) < (n : Nat) := by omega
    have hx := JRX i (by omega)
    have hd : Int.tdiv (i : Int) 2 = ((i / 2 : Nat) : Int) := by rw [Int.tdiv_eq_ediv_of_nonneg (by omega)]; omega
    have hw : IntKind.i64.wrap ((i : Int) / 2) = (i : Int) / 2 := Jq (by omega)
    have hw1 : IntKind.i64.wrap ((n : Int) - 1) = ((n - 1 : Nat) : Int) := by rw [Jq (by omega)]; omega
    have hd2 : Int.tdiv ((n - 1 : Nat) : Int) 2 = (((n - 1) / 2 : Nat) : Int) := by rw [Int.tdiv_eq_ediv_of_nonneg (by omega)]; omega
    have hw2 : IntKind.i64.wrap (((n - 1) / 2 : Nat) : Int) = (((n - 1) / 2 : Nat) : Int) := Jq (by omega)
    have hw3 : IntKind.i64.wrap ((((n - 1) / 2 : Nat) : Int) + 1) = (((n + 1) / 2 : Nat) : Int) := by rw [Jq (by omega)]; omega
    obtain ⟨s, hs⟩ : ∃ s, sib i = s := ⟨_, rfl⟩
    rw [hs] at hx
    obtain ⟨n1, hn1⟩ : ∃ n1, n - 1 = n1 := ⟨_, rfl⟩
    rw [hn1] at hw1 hd2 hw2 hw3
    obtain ⟨n2, hn2⟩ : ∃ n2, n1 / 2 = n2 := ⟨_, rfl⟩
    rw [hn2] at hd2 hw2 hw3
    by_cases h2 : n ≤ s
    · have c4 : (n : Int) ≤ (s : Nat) := by omega
      have hu := JGo root lf i n p h1 (by omega)
      simp [c3, h1, hx, h2, c4, hd, hw, hw1, hd2, hw2, hw3]
      exact ⟨(lf, i / 2, (n + 1) / 2, p), _, Weak.re (by simp), ⟨by show i / 2 < (n + 1) / 2; omega, by show (n + 1) / 2 < _; omega, by dsimp only; rw [← hu, hr]⟩, by show (n + 1) / 2 < n; omega⟩
    · have c4 : ¬ (n : Int) ≤ (s : Nat) := by omega
      cases p with
      | nil =>
        have hu := JD4 root lf i n h1 (by omega)
        simp [c3, h1, hx, h2, c4]
        refine Jb (.inr rfl) ?_
        simp [hu]
      | cons q ps =>
        have hu := JEg root lf i n q ps h1 (by omega)
        have hn0 : ¬ ((ps.length : Int) + 1 = 0) := by omega
        have hn3 : (0 : Int) < (ps.length : Int) + 1 := by omega
        have hn4 : (1 : Int) ≤ (ps.length : Int) + 1 := by omega
        have hDg : Dgs (q :: ps) = dv q :: Dgs ps := rfl
        by_cases h3 : i % 2 = 1
        · have h4 : s < i := by rw [← hs]; unfold sib; rw [if_pos h3]; omega
          have c5 : (s : Int) < (i : Nat) := by omega
          rw [if_pos h3] at hu
          simp [c3, h1, hx, h2, c4, hn0, hn3, c5, h4, hDg]
          refine Ja (JEp q lf) ?_ ?_
          · simp
          simp [hd, hw, hw1, hd2, hw2, hw3, hn4]
          exact ⟨(pairD q lf, i / 2, (n + 1) / 2, ps), _, Weak.re (by simp), ⟨by show i / 2 < (n + 1) / 2; omega, by show (n + 1) / 2 < _; omega, by dsimp only; rw [← hu, hr]⟩, by show (n + 1) / 2 < n; omega⟩
        · have h4 : ¬ s < i := by rw [← hs]; unfold sib; rw [if_neg h3]; omega
          have c5 : ¬ (s : Int) < (i : Nat) := by omega
          rw [if_neg h3] at hu
          simp [c3, h1, hx, h2, c4, hn0, hn3, c5, h4, hDg]
          refine Ja (JEp lf q) ?_ ?_
          · simp
          simp [hd, hw, hw1, hd2, hw2, hw3, hn4]
          exact ⟨(pairD lf q, i / 2, (n + 1) / 2, ps), _, Weak.re (by simp), ⟨by show i / 2 < (n + 1) / 2; omega, by show (n + 1) / 2 < _; omega, by dsimp only; rw [← hu, hr]⟩, by show (n + 1) / 2 < n; omega⟩
  · have c3 : ¬ (1 : Int) < (n : Nat) := by omega
    have hu := JEW root lf i n p (by omega)
    rw [hu]
    by_cases h5 : p = []
    · subst h5
      simp [c3, h1]
      refine Jb (.inr rfl) ?_
      simp
    · have h6 : ¬ p.length = 0 := by intro e; exact h5 (List.eq_nil_of_length_eq_zero e)
      have h7 : ¬ ((p.length : Int) = 0) := by omega
      simp [c3, h1, h6, h7, h5]
      refine Jb (.inr rfl) ?_
      simp
end Go.Proofs.YtjlmpdbagmdbiaaDoor.WL
end
section
namespace Go.Proofs.YtjlmpdbagmdbiaaDoor.WL
open Go
set_option maxHeartbeats 4000000
attribute [local irreducible] comp hb sha leafD pairD secD shutD wholeD pubD ofD
theorem JIY (p : Dg) : Meets Tryd.prog Gt Jmf [dv p] [] true (dv (leafK p)) [] := by
  refine Jc mix JJn ⟨by simp, by simp, by simp⟩ ?_
  have h := JK1 p.bs (by simp)
  unfold leafK
  generalize leafD p.bs = y at *
  simp
  refine Ja h ?_ ?_
  · simp
  simp
  refine Jb (.inr rfl) ?_
  simp
theorem JGn (root : Dg) (h : Int) (d : Dg) (s : Sig) (hh : -9223372036854775808 ≤ h ∧ h < 9223372036854775808) (hl : -9223372036854775808 ≤ s.leaf ∧ s.leaf < 9223372036854775808) :
    Meets Tryd.prog Gt JjZ [.node [dv root, .v (.int .i64 h)], dv d, s.avS] [] true (.v (.bool (checkK root h d s))) [] := by
  refine Jc mix JHx ⟨by simp, by simp, by simp⟩ ?_
  unfold checkK
  by_cases h1 : s.op.length = 32 ∧ s.sh.length = 32
  · have m1 := JNS d s.op s.sh 32 rfl h1.1 h1.2
    generalize ofD d s.op s.sh 32 = y at *
    have m2 := JIY y
    generalize leafK y = z at *
    by_cases h2 : 0 ≤ h
    · by_cases h3 : h ≤ 6
      · obtain ⟨n, rfl⟩ : ∃ n : Nat, h = n := ⟨h.toNat, by omega⟩
        have hmin : min n 64 = n := by omega
        obtain ⟨q, hq⟩ : ∃ q : Nat, q = 2 ^ n := ⟨_, rfl⟩
        have hq64 : q ≤ 64 := by rw [hq]; exact Nat.le_trans (Nat.pow_le_pow_right (by omega) (show n ≤ 6 by omega)) (by decide)
        have hqi : ((2 : Int) ^ n) = (q : Int) := by rw [hq]; simp
        have w1 : IntKind.i64.wrap (q : Int) = (q : Int) := Jq (by omega)
        have hn6 : (n : Int) ≤ 6 := h3
        rw [Int.toNat_natCast, ← hq]
        by_cases h4 : 0 ≤ s.leaf ∧ s.leaf < (q : Nat)
        · obtain ⟨i, hi⟩ : ∃ i : Nat, s.leaf = i := ⟨s.leaf.toNat, by omega⟩
          rw [hi] at h4
          have m3 := JGb root z i q s.path (by omega) (by omega)
          rw [hi, Int.toNat_natCast]
          generalize checkD root z i q s.path = e at *
          simp [Sig.avS]
          refine Ja m1 ?_ ?_
          · simp
          simp [h2, h3, hn6]
          refine Ja m2 ?_ ?_
          · simp
          simp [hmin, hqi, w1, hi]
          refine Ja m3 ?_ ?_
          · simp
          simp
          refine Jb (.inr rfl) ?_
          have h5 : i < q := by omega
          simp [h1, h5]
        · have m3 := JL3 root z s.leaf (q : Int) s.path (by omega)
          simp [Sig.avS]
          refine Ja m1 ?_ ?_
          · simp
          simp [h2, h3, hn6]
          refine Ja m2 ?_ ?_
          · simp
          simp [hmin, hqi, w1]
          refine Ja m3 ?_ ?_
          · simp
          simp
          refine Jb (.inr rfl) ?_
          simp [h4]
      · simp [Sig.avS]
        refine Ja m1 ?_ ?_
        · simp
        simp [h2, h3]
        refine Jb (.inr rfl) ?_
        simp [h3]
    · simp [Sig.avS]
      refine Ja m1 ?_ ?_
      · simp
      simp [h2]
      refine Jb (.inr rfl) ?_
      simp [h2]
  · have m1 := JRs d s.op s.sh h1
    simp [Sig.avS]
    refine Ja m1 ?_ ?_
    · simp
    simp
    refine Jb (.inr rfl) ?_
    simp [h1]
end Go.Proofs.YtjlmpdbagmdbiaaDoor.WL
end
section
namespace Go.Proofs.YtjlmpdbagmdbiaaDoor.WL
open Go
set_option maxHeartbeats 4000000
variable {G : Nat → Option AV}
attribute [local irreducible] sha comp hb checkK
theorem JK3 {n : Nat} : (if (n : Int) - 1 < 0 then 0 else (n : Int) - 1).tdiv 3 = (faults n : Nat) := by
  unfold faults
  rcases Nat.eq_zero_or_pos n with h | h
  · subst h; decide
  · have : (if (n : Int) - 1 < 0 then 0 else (n : Int) - 1) = ((n - 1 : Nat) : Int) := by split <;> omega
    rw [this]
    rfl
theorem JFv (c : Conf) (h : c.ms.length ≤ 1000000) : Meets Tryd.prog G Jeo [c.av] [] true (.v (.int .i64 (faults c.ms.length : Nat))) [] := by
  refine Jc mix JDZ ⟨by simp, by simp, by simp⟩ ?_
  have e := @JK3 c.ms.length
  have hs : IntKind.i64.wrap ((c.ms.length : Int) - 1) = (c.ms.length : Int) - 1 := Jq (by omega)
  have hf : IntKind.i64.wrap (faults c.ms.length : Nat) = (faults c.ms.length : Nat) := Jq (by unfold faults; omega)
  generalize faults c.ms.length = f at *
  simp [Conf.av, hs, e, hf]
  refine Jb (.inr rfl) ?_
  simp
theorem JFK (c : Conf) (h : c.ms.length ≤ 1000000) : Meets Tryd.prog G Jer [c.av] [] true (.v (.int .i64 (quorum c.ms.length : Nat))) [] := by
  refine Jc mix JDG ⟨by simp, by simp, by simp⟩ ?_
  have m1 := JFv (G := G) c h
  have hf : faults c.ms.length ≤ 1000000 := by unfold faults; omega
  have h1 : IntKind.i64.wrap ((c.ms.length : Int) + (faults c.ms.length : Nat)) = (c.ms.length : Int) + (faults c.ms.length : Nat) := Jq (by omega)
  have h2 : IntKind.i64.wrap (IntKind.i64.wrap (((c.ms.length : Int) + (faults c.ms.length : Nat)).tdiv 2) + 1) = (quorum c.ms.length : Nat) := by
    have h4 : ((c.ms.length : Int) + (faults c.ms.length : Nat)).tdiv 2 = ((c.ms.length + faults c.ms.length) / 2 : Nat) := rfl
    have h5 : IntKind.i64.wrap (((c.ms.length + faults c.ms.length) / 2 : Nat) : Int) = ((c.ms.length + faults c.ms.length) / 2 : Nat) := Jq (by omega)
    rw [h4, h5]
    exact Je (by omega)
  generalize quorum c.ms.length = q at *
  generalize faults c.ms.length = f at *
  simp [Conf.av]
  refine Ja m1 ?_ ?_
  · simp [Conf.av]
  simp [h1, h2]
  refine Jb (.inr rfl) ?_
  simp
def bConfig : Bytes := [99, 111, 110, 102, 105, 103]
def Conf.dg (c : Conf) : Dg := sha (bConfig ++ c.bytes)
theorem JPf : B bConfig = [AV.v (.int .u8 99), .v (.int .u8 111), .v (.int .u8 110), .v (.int .u8 102), .v (.int .u8 105), .v (.int .u8 103)] := (rfl)
def bVote : Bytes := [118, 111, 116, 101]
def Vote.signs (v : Vote) : Dg := sha (bVote ++ v.head)
theorem JU8 : B bVote = [AV.v (.int .u8 118), .v (.int .u8 111), .v (.int .u8 116), .v (.int .u8 101)] := (rfl)
theorem JGK (ms : List Mem) : (memsB ms).length = ms.length * 48 := by
  induction ms with
  | nil => rfl
  | cons m ms ih =>
    show (memB m ++ memsB ms).length = _
    rw [List.length_append, ih]
    simp [memB, Jg]
    omega
theorem Conf.bytes_len (c : Conf) : c.bytes.length = 16 + c.ms.length * 48 := by simp [Conf.bytes, Jg, JGK]
theorem Vote.head_len (v : Vote) : v.head.length = 72 := by simp [Vote.head, Jg]
theorem JFW (c : Conf) (h : c.ms.length ≤ 1000) : Meets Tryd.prog Gt Jeq [c.av] [] true (dv c.dg) [] := by
  refine Jc mix JDR ⟨by simp, by simp, by simp⟩ ?_
  have hrl : bConfig.length = 6 := rfl
  have hb := c.bytes_len
  have e : cat [bConfig, c.bytes] = bConfig ++ c.bytes := by simp [cat]
  have m1 := JBV (G := Gt) [] c (by simp) h
  rw [List.nil_append] at m1
  have m2 := Jhg (G := Gt) c.bytes (by omega)
  have m3 := JjV [bConfig, c.bytes] (by simp) (by rw [e, List.length_append, hrl]; omega)
  rw [e] at m3
  unfold Conf.dg
  generalize sha (bConfig ++ c.bytes) = d at *
  generalize c.bytes = x at *
  have hx : List.take x.length x = x := List.take_of_length_le (by omega)
  have hB := JPf
  generalize bConfig = r at *
  have hr : List.take 6 r = r := List.take_of_length_le (by omega)
  simp [Conf.av, dv]
  refine Ja m1 ?_ ?_
  · simp [wrM, Conf.av, dv]
  simp [wrM, Conf.av, dv]
  refine Ja m2 ?_ ?_
  · simp [wrM]
  simp [wrM]
  refine Ja m3 ?_ ?_
  · simp [Bss, hB, hx, hr]
  simp
  refine Jb (.inr rfl) ?_
  simp
theorem JGu (v : Vote) : Meets Tryd.prog Gt JjN [v.av] [] true (dv v.signs) [] := by
  refine Jc mix JHT ⟨by simp, by simp, by simp⟩ ?_
  have hrl : bVote.length = 4 := rfl
  have hb := v.head_len
  have e : cat [bVote, v.head] = bVote ++ v.head := by simp [cat]
  have m1 := JEn (G := Gt) [] v (by simp)
  rw [List.nil_append] at m1
  have m2 := Jhg (G := Gt) v.head (by omega)
  have m3 := JjV [bVote, v.head] (by simp) (by rw [e, List.length_append, hrl]; omega)
  rw [e] at m3
  unfold Vote.signs
  generalize sha (bVote ++ v.head) = d at *
  generalize v.head = x at *
  have hx : List.take x.length x = x := List.take_of_length_le (by omega)
  have hB := JU8
  generalize bVote = r at *
  have hr : List.take 4 r = r := List.take_of_length_le (by omega)
  simp [Vote.av, dv]
  refine Ja m1 ?_ ?_
  · simp [wrM, Vote.av, dv]
  simp [wrM, Vote.av, dv]
  refine Ja m2 ?_ ?_
  · simp [wrM]
  simp [wrM]
  refine Ja m3 ?_ ?_
  · simp [Bss, hB, hx, hr]
  simp
  refine Jb (.inr rfl) ?_
  simp
end Go.Proofs.YtjlmpdbagmdbiaaDoor.WL
end
section
namespace Go.Proofs.YtjlmpdbagmdbiaaDoor.WL
open Go
set_option maxHeartbeats 4000000
attribute [local irreducible] comp hb sha leafD pairD
theorem JNR {α : Type} [DecidableEq α] {a b : List α} {j : Nat} (ha : j < a.length) (hb : j < b.length) (h : a.take j = b.take j) (hj : a[j] = b[j]) : a.take (j + 1) = b.take (j + 1) := by
  rw [Jbk _ _ ha, Jbk _ _ hb, h, hj]
theorem JvJ {G : Nat → Option AV} (a b : List Dg) (ha : a.length ≤ 1000000000) : Meets Tryd.prog G Jg8 [.sl 32 (Dgs a), .sl 32 (Dgs b)] [] true (.v (.bool (decide (a = b)))) [] := by
  refine Jc mix JLn ⟨by simp, by simp, by simp⟩ ?_
  by_cases hl : a.length = b.length
  · simp [hl]
    refine go_up a.length (fun j (_ : Unit) => a.take j = b.take j) (fun j (_ : Unit) c => ⟨[(0, .sl 32 (Dgs a)), (1, .sl 32 (Dgs b)), (12, .v (.int .i64 (b.length : Nat))), (13, .v (.int .i64 (j : Nat)))], [], c⟩) () _ (Weak.refl _) (by simp) ?_ ?_
    · intro j _ c hj hx
      have hw : IntKind.i64.wrap ((j : Int) + 1) = ((j + 1 : Nat) : Int) := Je (by omega)
      have hj2 : j < b.length := by omega
      by_cases he : a[j] = b[j]
      · simp [hj, hj2, he, hw]
        exact ⟨(), _, Weak.refl _, JNR hj hj2 hx he⟩
      · have hne : ¬ a = b := by intro e; subst e; exact he rfl
        simp [hj, hj2, he, hw]
        refine Jb (.inr rfl) ?_
        simp [hne]
    · intro _ c hx
      have he : a = b := by rw [List.take_length, hl, List.take_length] at hx; exact hx
      simp [hl]
      refine Jb (.inr rfl) ?_
      simp [he]
  · have hne : ¬ a = b := by intro e; subst e; exact hl rfl
    have c1 : ¬ (a.length : Int) = (b.length : Nat) := by omega
    simp [hl, c1]
    refine Jb (.inr rfl) ?_
    simp [hne]
end Go.Proofs.YtjlmpdbagmdbiaaDoor.WL
end
section
namespace Go.Proofs.YtjlmpdbagmdbiaaDoor.WL
open Go
set_option maxHeartbeats 4000000
attribute [local irreducible] comp hb sha leafD pairD secD shutD wholeD pubD ofD
theorem JHX {G : Nat → Option AV} (a b c d : List Dg) (ha : a.length ≤ 1000000000) (hb : b.length ≤ 1000000000) :
    Meets Tryd.prog G Jvh [.node [.sl 32 (Dgs a), .sl 32 (Dgs b)], .node [.sl 32 (Dgs c), .sl 32 (Dgs d)]] [] true (.v (.bool (decide (a = c) && decide (b = d)))) [] := by
  refine Jc mix JKV ⟨by simp, by simp, by simp⟩ ?_
  simp
  refine Ja (JvJ a c ha) ?_ ?_
  · simp
  by_cases h : a = c
  · simp [h]
    refine Ja (JvJ b d hb) ?_ ?_
    · simp
    simp
    refine Jb (.inr rfl) ?_
    simp
  · simp [h]
    refine Jb (.inr rfl) ?_
    simp
end Go.Proofs.YtjlmpdbagmdbiaaDoor.WL
end
section
namespace Go.Proofs.YtjlmpdbagmdbiaaDoor.WL
open Go
set_option maxHeartbeats 4000000
attribute [local irreducible] comp hb sha leafD pairD secD shutD wholeD pubD ofD
def Sig.same (a b : Sig) : Bool := decide (a.leaf = b.leaf) && (decide (a.op = b.op) && decide (a.sh = b.sh)) && decide (a.path = b.path)
theorem JGw {G : Nat → Option AV} (a b : Sig) (h1 : a.op.length ≤ 1000000000) (h2 : a.sh.length ≤ 1000000000) (h3 : a.path.length ≤ 1000000000) : Meets Tryd.prog G JjQ [a.avS, b.avS] [] true (.v (.bool (a.same b))) [] := by
  refine Jc mix JL6 ⟨by simp, by simp, by simp⟩ ?_
  have m1 := JHX (G := G) a.op a.sh b.op b.sh h1 h2
  have m2 := JvJ (G := G) a.path b.path h3
  unfold Sig.same
  by_cases c1 : a.leaf = b.leaf
  · simp [Sig.avS, c1]
    refine Ja m1 ?_ ?_
    · simp
    by_cases c2 : a.op = b.op ∧ a.sh = b.sh
    · simp [c2]
      refine Ja m2 ?_ ?_
      · simp
      simp
      refine Jb (.inr rfl) ?_
      simp
    · have c3 : (decide (a.op = b.op) && decide (a.sh = b.sh)) = false := by
        rw [Bool.and_eq_false_iff, decide_eq_false_iff_not, decide_eq_false_iff_not]
        by_cases e : a.op = b.op
        · exact .inr fun h => c2 ⟨e, h⟩
        · exact .inl e
      simp only [c3]
      simp
      refine Jb (.inr rfl) ?_
      simp
  · simp [Sig.avS, c1]
    refine Jb (.inr rfl) ?_
    simp
end Go.Proofs.YtjlmpdbagmdbiaaDoor.WL
end
section
namespace Go.Proofs.YtjlmpdbagmdbiaaDoor.WL
open Go
set_option maxHeartbeats 4000000
variable {G : Nat → Option AV}
attribute [local irreducible] sha comp hb checkK idxOf Vote.signs Vote.good
def memAt (ms : List Mem) (id : Int) : Mem := ms[(idxOf ms id).toNat]!
def rightV (c : Conf) (v : Vote) : Bool := decide (0 ≤ idxOf c.ms v.src) && v.good && decide (v.epoch = c.epoch) && checkK (memAt c.ms v.src).root (memAt c.ms v.src).height v.signs v.sig
theorem JIM {c : Conf} {v : Vote} (h : idxOf c.ms v.src = -1) : rightV c v = false := by simp [rightV, h]
theorem JJb {c : Conf} {v : Vote} {k : Nat} (hk : k < c.ms.length) (h : idxOf c.ms v.src = (k : Int)) : rightV c v = (v.good && decide (v.epoch = c.epoch) && checkK c.ms[k].root c.ms[k].height v.signs v.sig) := by
  simp [rightV, memAt, h, hk]
theorem JGc (c : Conf) (v : Vote) (hms : c.ms ≠ []) (hm : ∀ m ∈ c.ms, W64 m.height) (hv : W64 v.sig.leaf) : Meets Tryd.prog Gt Jgp [c.av, v.av] [] true (.v (.bool (rightV c v))) [] := by
  refine Jc mix JHJ ⟨by simp, by simp, by simp⟩ ?_
  rcases JKC c.ms v.src with h | ⟨k, hk, h⟩
  · rw [JIM h]
    have m1 := JNY (G := Gt) hms h
    simp [Conf.av, Vote.av]
    refine Ja m1 ?_ ?_
    · simp [Conf.av]
    simp [Mem.av]
    refine Jb (.inr rfl) ?_
    simp
  · rw [JJb hk h]
    have m1 := JMW (G := Gt) hk h
    have m2 := JIP (G := Gt) v
    have m3 := JGu v
    have hh := hm _ (List.getElem_mem hk)
    have m4 := JGn c.ms[k].root c.ms[k].height v.signs v.sig hh hv
    generalize checkK c.ms[k].root c.ms[k].height v.signs v.sig = b4 at *
    generalize v.signs = sg at *
    simp [Conf.av, Vote.av]
    refine Ja m1 ?_ ?_
    · simp [Conf.av]
    simp [Mem.av]
    refine Ja m2 ?_ ?_
    · simp [Vote.av]
    simp
    cases hg : v.good
    · simp [hg]
      refine Jb (.inr rfl) ?_
      simp
    by_cases he : v.epoch = c.epoch
    · simp [hg, he]
      refine Ja m3 ?_ ?_
      · simp [Vote.av, hg, he]
      simp [dv]
      refine Ja m4 ?_ ?_
      · simp [dv]
      simp
      refine Jb (.inr rfl) ?_
      simp
    · simp [hg, he]
      refine Jb (.inr rfl) ?_
      simp
end Go.Proofs.YtjlmpdbagmdbiaaDoor.WL
end
section
namespace Go.Proofs.YtjlmpdbagmdbiaaDoor.WL
open Go
set_option maxHeartbeats 4000000
variable {G : Nat → Option AV}
attribute [local irreducible] sha
attribute [local irreducible] Rd.sig Rd.sig' Rd.blk Rd.blk' Rd.inn Rd.inn' Rd.dg Rd.dg' Rd.rep Rd.rep' repR
theorem Jvk (vs : List Vote) (i : Nat) (h : i < vs.length) : votesB (vs.take (i + 1)) = votesB (vs.take i) ++ voteF.wr vs[i] := by
  rw [List.take_succ_eq_append_getElem h, JEk]
theorem JNO (v : Vote) (h : v.sig.ok = true) : (voteF.wr v).length ≤ 2328 := by
  simp only [Sig.ok, decide_eq_true_eq] at h
  rw [JDe, List.length_append, Sig.bytes_len]
  simp [Vote.head, Jg]
  omega
theorem Jqy : ∀ (vs : List Vote), (vs.all fun v => v.sig.ok) = true → (votesB vs).length ≤ 2328 * vs.length
  | [], _ => by simp [votesB]
  | v :: vs, h => by
    simp only [List.all_cons, Bool.and_eq_true] at h
    have h1 := JNO v h.1
    have h2 := Jqy vs h.2
    show (voteF.wr v ++ votesB vs).length ≤ _
    rw [List.length_append, List.length_cons]
    omega
theorem JFO {α : Type} {p : α → Bool} {l : List α} {i : Nat} (h : ∀ k (hk : k < l.length), k < i → p l[k] = true) : (l.take i).all p = true := by
  rw [List.all_eq_true]
  intro a ha
  obtain ⟨k, hk, rfl⟩ := List.getElem_of_mem ha
  rw [List.length_take] at hk
  rw [List.getElem_take]
  exact h k (by omega) (by omega)
theorem JKs (bs : Bytes) (x : Cert) (hk : x.ok = false) (hn : x.votes.length ≤ 1000) : Meets Tryd.prog G JbE [.ptr 1000 0 0, x.av] (wrM 0 bs) true (.v (.bool false)) (wrM 1 bs) := by
  refine Jc mix JCI ⟨by simp [wrM], by simp, by simp [wrM]⟩ ?_
  have m1 := J0 (G := G) [] [x.round, (x.votes.length : Int)] (by simp)
  have hy : (nums [x.round, (x.votes.length : Int)]).length = 16 := by rw [Jg]; simp
  rw [List.nil_append] at m1
  unfold Cert.ok at hk
  generalize hvs : x.votes = vs at *
  generalize nums [x.round, (vs.length : Int)] = y at *
  simp [wrM, Cert.av, hvs]
  refine Ja m1 ?_ ?_
  · simp [wrM, I64_2]
  simp [wrM, I64_2]
  obtain ⟨F, hF⟩ : ∃ F : Nat → Bytes, ∀ i, F i = y ++ votesB (vs.take i) := ⟨_, fun _ => rfl⟩
  have hF0 : y = F 0 := by rw [hF]; simp [votesB]
  have h0l : (F 0).length = 16 := by rw [← hF0]; exact hy
  rw [← h0l] at hy
  rw [hF0]
  have h16 : (F 0).length = 16 := h0l
  refine go_up vs.length (fun j (_ : Unit) => ∀ k (hk : k < vs.length), k < j → vs[k].sig.ok = true) (fun j _ c => ⟨[(0, .ptr 1000 0 0), (3, .ptr 3 c 0), (5, .ptr 11 c 0), (21, .sl 41 (Votes vs)), (22, .v (.int .i64 (vs.length : Nat))), (23, .v (.int .i64 (j : Nat)))],
    [(3, .var c x.av), (11, .var c (.node [.row 12 1 c 0 (F j).length])), (12, .rows c 1 (B (F j))), (1000, .var 0 (.node [.row 2000 1 c 0 bs.length])), (2000, .rows c 1 (B bs))], c + 1⟩) () _ (Weak.re0 1000 (by simp [Cert.av, hvs])) (by intro k _ h; omega) ?_ ?_
  · intro j _ c hj hok
    have hw : IntKind.i64.wrap ((j : Int) + 1) = ((j + 1 : Nat) : Int) := Je (by omega)
    have hlj : (F j).length ≤ 16 + 2328 * j := by
      have h1 := Jqy (vs.take j) (JFO (p := fun v : Vote => v.sig.ok) hok)
      rw [List.length_take] at h1
      rw [hF, List.length_append, hF0, h16]
      have : 2328 * min j vs.length ≤ 2328 * j := by omega
      omega
    cases hsk : vs[j].sig.ok
    · have m4 := JKE (G := G) (F j) vs[j] hsk
      simp [hj]
      refine Ja m4 ?_ ?_
      · simp [wrM]
      simp [wrM]
      refine Jb (.inr rfl) ?_
      simp
    · have m4 := Joz (G := G) (F j) vs[j] hsk (by omega)
      have hFs : F j ++ voteF.wr vs[j] = F (j + 1) := by rw [hF, hF, Jvk vs j hj, List.append_assoc]
      rw [hFs] at m4
      simp [hj]
      refine Ja m4 ?_ ?_
      · simp [wrM]
      simp [wrM]
      simp [hw]
      refine ⟨(), _, Weak.re0 1000 (by simp), ?_⟩
      intro k hk2 hkj
      rcases (show k < j ∨ k = j by omega) with h | rfl
      · exact hok k hk2 h
      · exact hsk
  · intro _ c hok
    exfalso
    have : (vs.all fun v => v.sig.ok) = true := by
      have := JFO (p := fun v : Vote => v.sig.ok) (l := vs) (i := vs.length) hok
      rwa [List.take_length] at this
    rw [this] at hk
    cases hk
theorem JCf (bs : Bytes) (x : Cert) (hk : x.ok = true) (hn : x.votes.length ≤ 1000) (hbs : bs.length ≤ 20000000) : Meets Tryd.prog G JbE [.ptr 1000 0 0, x.av] (wrM 0 bs) true (.v (.bool true)) (wrM 1 (bs ++ x.bytes)) := by
  refine Jc mix JCI ⟨by simp [wrM], by simp, by simp [wrM]⟩ ?_
  have m1 := J0 (G := G) [] [x.round, (x.votes.length : Int)] (by simp)
  have m2 := J0 (G := G) bs [x.round, (x.votes.length : Int)] (by simp; omega)
  have hy : (nums [x.round, (x.votes.length : Int)]).length = 16 := by rw [Jg]; simp
  have hb : bs ++ x.bytes = bs ++ nums [x.round, (x.votes.length : Int)] ++ votesB x.votes := by simp [Cert.bytes]
  rw [List.nil_append] at m1
  rw [hb]
  unfold Cert.ok at hk
  have hall : ∀ k (h : k < x.votes.length), (x.votes[k]).sig.ok = true := fun k h => List.all_eq_true.1 hk _ (List.getElem_mem h)
  generalize hvs : x.votes = vs at *
  generalize nums [x.round, (vs.length : Int)] = y at *
  obtain ⟨F, hF⟩ : ∃ F : Nat → Bytes, ∀ i, F i = y ++ votesB (vs.take i) := ⟨_, fun _ => rfl⟩
  obtain ⟨K, hK⟩ : ∃ K : Nat → Bytes, ∀ i, K i = bs ++ y ++ votesB (vs.take i) := ⟨_, fun _ => rfl⟩
  have hF0 : y = F 0 := by rw [hF]; simp [votesB]
  have hK0 : bs ++ F 0 = K 0 := by rw [hK, ← hF0]; simp [votesB]
  have hKN : bs ++ y ++ votesB vs = K vs.length := by rw [hK, List.take_length]
  have hvl : ∀ j, j ≤ vs.length → (votesB (vs.take j)).length ≤ 2328 * j := by
    intro j hj
    have h1 := Jqy (vs.take j) (JFO fun k h _ => hall k h)
    rw [List.length_take] at h1
    have : 2328 * min j vs.length ≤ 2328 * j := by omega
    omega
  have hFl : ∀ j, j ≤ vs.length → (F j).length ≤ 16 + 2328 * j := by
    intro j hj
    have := hvl j hj
    rw [hF, List.length_append, hy]
    omega
  have hKl : ∀ j, j ≤ vs.length → (K j).length ≤ bs.length + 16 + 2328 * j := by
    intro j hj
    have := hvl j hj
    rw [hK, List.length_append, List.length_append, hy]
    omega
  have hFs : ∀ j (hj : j < vs.length), F j ++ voteF.wr vs[j] = F (j + 1) := fun j hj => by rw [hF, hF, Jvk vs j hj, List.append_assoc]
  have hKs : ∀ j (hj : j < vs.length), K j ++ voteF.wr vs[j] = K (j + 1) := fun j hj => by rw [hK, hK, Jvk vs j hj]; simp only [List.append_assoc]
  rw [hKN]
  clear hF hK hKN hb hvl
  rw [hF0] at m1 m2 hy
  rw [hK0] at m2
  clear hF0
  simp [wrM, Cert.av, hvs]
  refine Ja m1 ?_ ?_
  · simp [wrM, I64_2]
  simp [wrM, I64_2]
  refine go_up vs.length (fun j (_ : Unit) => True) (fun j _ c => ⟨[(0, .ptr 1000 0 0), (3, .ptr 3 c 0), (5, .ptr 11 c 0), (21, .sl 41 (Votes vs)), (22, .v (.int .i64 (vs.length : Nat))), (23, .v (.int .i64 (j : Nat)))],
    [(3, .var c x.av), (11, .var c (.node [.row 12 1 c 0 (F j).length])), (12, .rows c 1 (B (F j))), (1000, .var 0 (.node [.row 2000 1 c 0 bs.length])), (2000, .rows c 1 (B bs))], c + 1⟩) () _ (Weak.re0 1000 (by simp [Cert.av, hvs])) trivial ?_ ?_
  · intro j _ c hj _
    have hw : IntKind.i64.wrap ((j : Int) + 1) = ((j + 1 : Nat) : Int) := Je (by omega)
    have hlj := hFl j (by omega)
    have m4 := Joz (G := G) (F j) vs[j] (hall j hj) (by omega)
    rw [hFs j hj] at m4
    simp [hj]
    refine Ja m4 ?_ ?_
    · simp [wrM]
    simp [wrM]
    simp [hw]
    exact ⟨(), _, Weak.re0 1000 (by simp), trivial⟩
  · intro _ c _
    simp [Cert.av, hvs]
    refine Ja m2 ?_ ?_
    · simp [wrM, I64_2]
    simp [wrM, I64_2]
    refine go_up vs.length (fun j (_ : Unit) => True) (fun j _ c => ⟨[(0, .ptr 1000 0 0), (41, .sl 41 (Votes vs)), (42, .v (.int .i64 (vs.length : Nat))), (43, .v (.int .i64 (j : Nat)))],
      [(1000, .var 0 (.node [.row 2000 1 c 0 (K j).length])), (2000, .rows c 1 (B (K j)))], c + 1⟩) () _ (Weak.re0 1000 (by simp)) trivial ?_ ?_
    · intro j _ c hj _
      have hw : IntKind.i64.wrap ((j : Int) + 1) = ((j + 1 : Nat) : Int) := Je (by omega)
      have hlj := hKl j (by omega)
      have m4 := Joz (G := G) (K j) vs[j] (hall j hj) (by omega)
      rw [hKs j hj] at m4
      simp [hj]
      refine Ja m4 ?_ ?_
      · simp [wrM]
      simp [wrM]
      simp [hw]
      exact ⟨(), _, Weak.re0 1000 (by simp), trivial⟩
    · intro _ c _
      simp
      refine Jb (.inr rfl) ?_
      simp
theorem count10 (r : Rd) : (0 : Int) ≤ r.inn 1 10 ∧ r.inn 1 10 ≤ 10 := by
  unfold Rd.inn Rd.inOk
  split
  · rename_i k
    simp only [Bool.and_eq_true, decide_eq_true_eq] at k
    omega
  · omega
theorem JIo (r : Rd) : Meets Tryd.prog G JpV [.ptr 1000 0 0] (rdM 0 r) false (certF.rd r).av (rdM 1 (certF.rd' r)) := by
  refine Jc mix JJs ⟨by simp [rdM], by simp [rdM], by simp [rdM]⟩ ?_
  rw [JFH, JGg]
  have hN : ((r.certN : Nat) : Int) = (r.inn' 0 1024).inn 1 10 ∧ r.certN ≤ 10 := by
    have := count10 (r.inn' 0 1024)
    unfold Rd.certN
    omega
  obtain ⟨hN, hN2⟩ := hN
  generalize r.certN = N at *
  have m1 := JT (G := G) r 0 1024
  generalize r.inn 0 1024 = a1 at *
  generalize r.inn' 0 1024 = r1 at *
  have m2 := JT (G := G) r1 1 10
  rw [← hN] at m2
  clear hN
  generalize r1.inn' 1 10 = r2 at *
  simp [rdM]
  refine Ja m1 ?_ ?_
  · simp [rdM]
  simp [rdM]
  refine Ja m2 ?_ ?_
  · simp [rdM]
  simp [rdM]
  obtain ⟨L, hL⟩ : ∃ L : Nat → List Vote, ∀ i, L i = (repR (fun _ => voteF) r2 i).1 := ⟨_, fun _ => rfl⟩
  obtain ⟨R, hR⟩ : ∃ R : Nat → Rd, ∀ i, R i = (repR (fun _ => voteF) r2 i).2 := ⟨_, fun _ => rfl⟩
  have hL0 : L 0 = [] := by rw [hL]; simp only [repR]
  have hR0 : r2 = R 0 := by rw [hR]; simp only [repR]
  have hLl : ∀ i, (L i).length = i := fun i => by rw [hL]; exact Jbp _ r2 i
  rw [← hL, ← hR]
  rw [hR0]
  refine go_up N (fun j (_ : Unit) => True) (fun j _ c => ⟨[(0, .ptr 1000 0 0), (2, .ptr 2 c 0), (3, .ptr 3 c 0), (8, .v (.int .i64 (N : Nat))), (9, .v (.int .i64 (j : Nat)))],
    [(2, .var c (.node [.v (.int .i64 0), .v (.slice none 0 0)])), (3, .var c (.node [.v (.int .i64 a1), .row 16 41 c 0 j])), (16, .rows c 41 (Votes (L j))),
     (1000, .var 0 (.node [.row 2000 1 c (R j).pre.length (R j).s.length, .v (.bool (R j).bad)])), (2000, .rows c 1 (B ((R j).pre ++ (R j).s)))], c + 1⟩) () _ (Weak.re0 1000 (by simp [hL0])) trivial ?_ ?_
  · intro j _ c hj _
    have hw : IntKind.i64.wrap ((j : Int) + 1) = ((j + 1 : Nat) : Int) := Je (by omega)
    have f1 : fitsB (j + 1) 152 := fits (by omega) (by omega)
    have e1 : L (j + 1) = L j ++ [voteF.rd (R j)] := by rw [hL, hL, hR]; simp only [repR]
    have e2 : R (j + 1) = voteF.rd' (R j) := by rw [hR, hR]; simp only [repR]
    have hlj := hLl j
    generalize R j = q at *
    have m3 := JIy (G := G) q
    generalize voteF.rd q = v at *
    generalize voteF.rd' q = q1 at *
    generalize L j = x at *
    have hS := JE6 x v
    simp [hj, rdM]
    refine Ja m3 ?_ ?_
    · simp [rdM]
    simp [rdM, f1, hlj, hS]
    simp [hw]
    exact ⟨(), _, Weak.re0 1000 (by simp [e1, e2]), trivial⟩
  · intro _ c _
    have hlN := hLl N
    generalize R N = q at *
    generalize L N = x at *
    have m8 := J8 (G := G) q
    have htx : List.take N x = x := List.take_of_length_le (by omega)
    simp [rdM]
    refine Ja m8 ?_ ?_
    · simp [rdM]
    simp [rdM]
    cases hb : q.bad
    · simp [rdM, hb]
      refine Jb (.inr rfl) ?_
      simp [Cert.av, hb, hlN, htx]
    · simp [rdM, hb]
      refine Jb (.inr rfl) ?_
      simp [Cert.av, Cert.zero, hb]
theorem JKT (bs : Bytes) (l : Lnk) (hk : l.cert.ok = false) (hn : l.cert.votes.length ≤ 1000) : Meets Tryd.prog G Jbl [.ptr 1000 0 0, l.av] (wrM 0 bs) true (.v (.bool false)) (wrM 1 bs) := by
  refine Jc mix Jwx ⟨by simp [wrM], by simp, by simp [wrM]⟩ ?_
  have m1 := JKs (G := G) [] l.cert hk hn
  simp [wrM, Lnk.av]
  refine Ja m1 ?_ ?_
  · simp [wrM]
  simp [wrM]
  refine Jb (.inr rfl) ?_
  simp
theorem Cert.bytes_len (x : Cert) (h : x.ok = true) : x.bytes.length ≤ 16 + 2328 * x.votes.length := by
  have := Jqy x.votes h
  simp only [Cert.bytes, List.length_append, Jg, List.length_cons, List.length_nil]
  omega
theorem JGQ (bs : Bytes) (l : Lnk) (hk : l.cert.ok = true) (hn : l.cert.votes.length ≤ 1000) (hm : l.conf.ms.length ≤ 1000) (hq : l.blk.qs.length ≤ 1000000) (hbs : bs.length + l.blk.bytes.length ≤ 15000000) :
    Meets Tryd.prog G Jbl [.ptr 1000 0 0, l.av] (wrM 0 bs) true (.v (.bool true)) (wrM 1 (bs ++ linkF.wr l)) := by
  refine Jc mix Jwx ⟨by simp [wrM], by simp, by simp [wrM]⟩ ?_
  have hl := l.cert.bytes_len hk
  have m1 := JCf (G := G) [] l.cert hk hn (by simp)
  have m2 := JCU (G := G) bs l.blk (by omega) hq
  have m3 := JCf (G := G) (bs ++ l.blk.bytes) l.cert hk hn (by rw [List.length_append]; omega)
  have m4 := JBV (G := G) (bs ++ l.blk.bytes ++ l.cert.bytes) l.conf (by rw [List.length_append, List.length_append]; omega) hm
  have hb : bs ++ linkF.wr l = bs ++ l.blk.bytes ++ l.cert.bytes ++ l.conf.bytes := by rw [JFu]; simp
  rw [hb]
  generalize bs ++ l.blk.bytes ++ l.cert.bytes ++ l.conf.bytes = y3 at *
  generalize bs ++ l.blk.bytes ++ l.cert.bytes = y2 at *
  generalize bs ++ l.blk.bytes = y1 at *
  generalize [] ++ l.cert.bytes = y0 at *
  simp [wrM, Lnk.av]
  refine Ja m1 ?_ ?_
  · simp [wrM]
  simp [wrM]
  refine Ja m2 ?_ ?_
  · simp [wrM]
  simp [wrM]
  refine Ja m3 ?_ ?_
  · simp [wrM]
  simp [wrM]
  refine Ja m4 ?_ ?_
  · simp [wrM]
  simp [wrM]
  refine Jb (.inr rfl) ?_
  simp
theorem JJh (r : Rd) : Meets Tryd.prog G Jgn [.ptr 1000 0 0] (rdM 0 r) false (linkF.rd r).av (rdM 1 (linkF.rd' r)) := by
  refine Jc mix JHr ⟨by simp [rdM], by simp [rdM], by simp [rdM]⟩ ?_
  rw [JFw, JG0]
  have m1 := JN6 (G := G) r
  generalize r.blk = a1 at *
  generalize r.blk' = r1 at *
  have m2 := JIo (G := G) r1
  generalize certF.rd r1 = a2 at *
  generalize certF.rd' r1 = r2 at *
  have m3 := JJK (G := G) r2
  generalize confF.rd r2 = a3 at *
  generalize confF.rd' r2 = r3 at *
  have m8 := J8 (G := G) r3
  simp [rdM]
  refine Ja m1 ?_ ?_
  · simp [rdM]
  simp [rdM]
  refine Ja m2 ?_ ?_
  · simp [rdM]
  simp [rdM]
  refine Ja m3 ?_ ?_
  · simp [rdM]
  simp [rdM]
  refine Ja m8 ?_ ?_
  · simp [rdM]
  simp [rdM]
  cases hb : r3.bad
  · simp [rdM, hb]
    refine Jb (.inr rfl) ?_
    simp [Lnk.av, hb]
  · simp [rdM, hb]
    refine Jb (.inr rfl) ?_
    simp [Lnk.av, Lnk.zero, Blk.avS, Blk.zero, Cert.av, Cert.zero, Conf.av, Conf.zero, hb, dv]
end Go.Proofs.YtjlmpdbagmdbiaaDoor.WL
end
section
namespace Go.Proofs.YtjlmpdbagmdbiaaDoor.WL
open Go
set_option maxHeartbeats 4000000
variable {G : Nat → Option AV}
theorem JHC (r : Rd) : Meets Tryd.prog G Jj0 [.ptr 1000 0 0] (rfM r) true (r.blk.avR 3000 1) (rfM r.blk' ++ [(3000, .rows 1 42 (Reqs r.blk.qs))]) := by
  refine Jc mix JLY ⟨by simp [rfM], by simp [rfM, Blk.avR], by simp [rfM]⟩ ?_
  obtain ⟨hN, hN2⟩ := r.blkN_eq
  have hsane : ∀ n, (r.b6.rq' n).sane := r.b6.rq_sane (Rd.inn_sane _ _ _)
  have hblk : r.blk = if (r.b6.rq' r.blkN).bad = true then Blk.zero else ⟨r.inn 0 1073741824, r.b1.inn 1 1024, r.b2.dg, r.b3.dg, r.b4.dg, r.b6.rq r.blkN⟩ := rfl
  have hblk' : r.blk' = r.b6.rq' r.blkN := rfl
  rw [hblk, hblk']
  generalize r.blkN = N at *
  unfold Rd.b6 Rd.b5 Rd.b4 Rd.b3 Rd.b2 Rd.b1 at *
  have m1 := JI (G := G) r 0 1073741824
  generalize r.inn' 0 1073741824 = r1 at *
  have m2 := JI (G := G) r1 1 1024
  generalize r1.inn' 1 1024 = r2 at *
  have m3 := J7 (G := G) r2
  generalize r2.dg' = r3 at *
  have m4 := J7 (G := G) r3
  generalize r3.dg' = r4 at *
  have m5 := J7 (G := G) r4
  generalize r4.dg' = r5 at *
  have m6 := JI (G := G) r5 0 8
  rw [← hN] at m6
  generalize r5.inn' 0 8 = r6 at *
  generalize r.inn 0 1073741824 = a1 at *
  generalize r1.inn 1 1024 = a2 at *
  generalize r2.dg = a3 at *
  generalize r3.dg = a4 at *
  generalize r4.dg = a5 at *
  simp [rfM]
  refine Ja m1 ?_ ?_
  · simp [rfM]
  simp [rfM]
  refine Ja m2 ?_ ?_
  · simp [rfM]
  simp [rfM]
  refine Ja m3 ?_ ?_
  · simp [rfM]
  simp [rfM, dv]
  refine Ja m4 ?_ ?_
  · simp [rfM]
  simp [rfM, dv]
  refine Ja m5 ?_ ?_
  · simp [rfM]
  simp [rfM, dv]
  refine Ja m6 ?_ ?_
  · simp [rfM]
  simp [rfM, dv]
  refine go_up N (fun j (_ : Unit) => True) (fun j _ c => ⟨[(0, .ptr 1000 0 0), (2, .ptr 2 c 0), (3, .ptr 3 c 0), (4, .v (.int .i64 (N : Nat))), (5, .v (.int .i64 (j : Nat)))],
    [(2, .var c (.node [.v (.int .i64 0), .v (.int .i64 0), dv Dg.zero, dv Dg.zero, dv Dg.zero, .v (.slice none 0 0)])), (3, .var c (.node [.v (.int .i64 a1), .v (.int .i64 a2), dv a3, dv a4, dv a5, .row 37 42 c 0 j])), (37, .rows c 42 (Reqs (r6.rq j))),
     (1000, .var 0 (.node [.v (.string (mkS (r6.rq' j).s)), .v (.bool (r6.rq' j).bad)]))], c + 1⟩) () _ (Weak.re0 1000 (by simp [Rd.rq, Rd.rq', dv])) trivial ?_ ?_
  · intro j _ c hj _
    have hw : IntKind.i64.wrap ((j : Int) + 1) = ((j + 1 : Nat) : Int) := Je (by omega)
    have f1 : fitsB (j + 1) 136 := fits (by omega) (by omega)
    have e1 : r6.rq (j + 1) = r6.rq j ++ [(r6.rq' j).req] := rfl
    have e2 : r6.rq' (j + 1) = (r6.rq' j).req' := rfl
    have hl := r6.rq_length j
    have hsj := hsane j
    have hsN := hsane N
    have hbN := r6.rq_bad j
    have m8 := JR (G := G) (r6.rq' j)
    generalize r6.rq j = x at *
    cases hb : (r6.rq' j).bad
    · generalize r6.rq' j = q at *
      have m7 := JG7 (G := G) q
      generalize q.req' = q' at *
      generalize q.req = t at *
      have hS := JHD x t
      simp only [Req.av, Chg.av] at hS
      simp [hj, rfM, hb, dv]
      refine Ja m8 ?_ ?_
      · simp [rfM, hb]
      simp [rfM, hb, dv]
      refine Ja m7 ?_ ?_
      · simp [rfM, hb]
      simp [rfM, f1, hl, hw, hS, dv, Req.av, Chg.av]
      exact ⟨(), _, Weak.re0 1000 (by simp [e1, e2]), trivial⟩
    · have hbn := hbN hb N (by omega)
      have s1 := hsj hb
      have s2 := hsN hbn
      generalize r6.rq' j = q at *
      generalize r6.rq' N = p at *
      simp [hj, rfM, hb, dv]
      refine Ja m8 ?_ ?_
      · simp [rfM, hb]
      simp [rfM, hb, dv]
      refine Ja m8 ?_ ?_
      · simp [rfM, hb]
      simp [rfM, hb, dv]
      refine Jb (.inr rfl) ?_
      simp [Blk.avR, Blk.zero, hb, hbn, s1, s2, dv]
  · intro _ c _
    have hl := r6.rq_length N
    generalize r6.rq N = x at *
    generalize r6.rq' N = q at *
    have m8 := JR (G := G) q
    simp [rfM, dv]
    refine Ja m8 ?_ ?_
    · simp [rfM]
    cases hb : q.bad
    · simp [rfM, hb, dv]
      refine Jb (.inr rfl) ?_
      simp [Blk.avR, hl, hb, dv]
    · simp [rfM, hb, dv]
      refine Jb (.inr rfl) ?_
      simp [Blk.avR, Blk.zero, hb, dv]
end Go.Proofs.YtjlmpdbagmdbiaaDoor.WL
end
