/- Texts put together: S02f, S12g, S14b, S14c, S04a, S04b, S03a, S03b, S05a, S14d. -/
import Derived.Test.YtjlmpdbagmdbiaaDoorWm8
section
/-
  CHAPTER 02: contracts: the reference's digest.
-/
namespace Go.Proofs.YtjlmpdbagmdbiaaDoor.WL
open Go
set_option maxHeartbeats 4000000
attribute [local irreducible] comp hb sha

theorem list_len (s : St) : s.list.length = 8 := (rfl)
theorem rof_meets {G : Nat → Option AV} (b : Bytes) (hbl : b.length ≤ 100000000) : Meets Tryd.prog G fn_r02_Of [.sl 1 (B b)] [] true (dv (sha b)) [] := by
  refine meets_of_go mix k_r02_Of ⟨by simp, by simp, by simp⟩ ?_
  have hmod := pad_length b
  have hpl : (pad b).length ≤ 200000000 := by simp [pad, fillN]; omega
  have hs : (sha b).bs = (hb ((pad b).length / 64) (pad b)).bytes := by unfold sha; rfl
  simp
  refine call_intro (padded_meets b hbl) ?_ ?_
  · simp
  simp
  refine call_intro numbers_meets ?_ ?_
  · simp
  simp
  obtain ⟨p, hp⟩ : ∃ p, pad b = p := ⟨_, rfl⟩
  rw [hp] at hmod hpl hs ⊢
  obtain ⟨n, hn⟩ : ∃ n, n = p.length / 64 := ⟨_, rfl⟩
  rw [← hn] at hs
  have hpn : p.length = 64 * n := by omega
  have h0 : hb 0 p = iv := by unfold hb; rfl
  refine go_up n (fun _ _ => True) (fun j (_ : Unit) c => ⟨[(2, .ptr 2 c 0), (3, .ptr 3 c 0), (4, .sl 1 (B p)), (5, .ptr 5 c 0), (6, .v (.int .i64 ((64 * j : Nat) : Int)))],
    [(2, .var c (.arr 1 (B (zeros 32)))), (3, .var c (.arr 1 (U (hb j p).list))), (5, .var c (.arr 1 (U table)))], c + 1⟩) () _ (Weak.re (by simp [h0, U_iv])) trivial ?_ ?_
  · intro j _ c hj _
    obtain ⟨q, hq⟩ : ∃ q : Nat, q = 64 * j := ⟨_, rfl⟩
    obtain ⟨q2, hq2⟩ : ∃ q2 : Nat, q2 = q + 64 := ⟨_, rfl⟩
    have hq3 : 64 * (j + 1) = q2 := by omega
    have a1 : IntKind.i64.wrap ((q : Int) + 64) = (q2 : Int) := by rw [w64_id (by omega)]; omega
    have b1 : (q : Int) < (p.length : Nat) ∧ q ≤ q2 ∧ (q : Int) ≤ q2 ∧ q2 ≤ p.length ∧ (q2 : Int) ≤ (p.length : Nat) ∧ q2 - q = 64 := by omega
    have hbs : hb (j + 1) p = comp (hb j p) ((p.drop q).take 64) := by rw [hq]; exact hb_succ j p
    have hl : ((p.drop q).take 64).length = 64 := by rw [List.length_take, List.length_drop]; omega
    have hnx := next_meets (G := G) (hb j p) ((p.drop q).take 64) hl
    rw [← hbs] at hnx
    clear hbs
    obtain ⟨s1, hs1⟩ : ∃ s, hb (j + 1) p = s := ⟨_, rfl⟩
    rw [hs1] at hnx
    obtain ⟨s0, hs0⟩ : ∃ s, hb j p = s := ⟨_, rfl⟩
    rw [hs0] at hnx ⊢
    have htd : List.drop q (List.take q2 p) = List.take 64 (List.drop q p) := by rw [List.drop_take, show q2 - q = 64 by omega]
    rw [← hq]
    simp [a1, b1, St.av, list_len]
    refine call_intro hnx ?_ ?_
    · simp [St.av, htd]
    simp [a1, b1, St.av, list_len]
    exact ⟨(), _, Weak.re (by simp [hs1]; omega), trivial⟩
  · intro _ c _
    have c1 : ((64 * n : Nat) : Int) = (p.length : Int) := by omega
    rw [c1]
    generalize hb n p = e at *
    have hlen : e.list.length = 8 := rfl
    simp [hlen]
    refine go_up 8 (fun i (o : Bytes) => o = e.bytes.take (4 * i) ++ zeros (32 - 4 * i)) (fun i o c => ⟨[(2, .ptr 2 c 0), (7, .ptr 7 c 0), (29, .arr 1 (U e.list)), (30, .v (.int .i64 (i : Nat)))],
      [(2, .var c (.arr 1 (B (zeros 32)))), (7, .var c (.arr 1 (B o)))], c + 1⟩) (zeros 32) _ (Weak.re (by simp)) (by simp) ?_ ?_
    · intro i o c hi ho
      have hw : IntKind.i64.wrap ((i : Int) + 1) = ((i + 1 : Nat) : Int) := w64_succ (by omega)
      have hi8 : (i : Int) < 8 := by omega
      have g1 := getD_get e.list i (by omega)
      obtain ⟨x, hx⟩ : ∃ x, e.list.getD i 0 = x := ⟨_, rfl⟩
      rw [hx] at g1
      have e1 := (List.getElem?_eq_some_iff.1 g1).2
      simp [hi8, hlen, hi, e1]
      refine go_up 4 (fun j (o : Bytes) => o = e.bytes.take (4 * i + j) ++ zeros (32 - (4 * i + j))) (fun j o c => ⟨[(2, .ptr 2 c 0), (7, .ptr 7 c 0), (8, .v (.int .i64 (i : Nat))), (9, wv x), (10, .v (.int .i64 (j : Nat))), (29, .arr 1 (U e.list)), (30, .v (.int .i64 (i : Nat)))],
        [(2, .var c (.arr 1 (B (zeros 32)))), (7, .var c (.arr 1 (B o)))], c + 1⟩) o _ (Weak.re (by simp)) ho ?_ ?_
      · intro j o c hj ho
        have hw : IntKind.i64.wrap ((j : Int) + 1) = ((j + 1 : Nat) : Int) := w64_succ (by omega)
        have hj4 : (j : Int) < 4 := by omega
        have hol : o.length = 32 := by rw [ho]; simp; omega
        obtain ⟨q, hq⟩ : ∃ q : Nat, q = 4 * i := ⟨_, rfl⟩
        obtain ⟨t, ht⟩ : ∃ t : Nat, t = 4 * i + j := ⟨_, rfl⟩
        obtain ⟨s, hs⟩ : ∃ s : Nat, s = 24 - 8 * j := ⟨_, rfl⟩
        have a1 : IntKind.i64.wrap (4 * (i : Int)) = (q : Int) := by rw [w64_id (by omega)]; omega
        have a2 : IntKind.i64.wrap ((q : Int) + (j : Int)) = (t : Int) := by rw [w64_id (by omega)]; omega
        have a3 : IntKind.i64.wrap (8 * (j : Int)) = 8 * (j : Int) := w64_id (by omega)
        have a4 : IntKind.i64.wrap (24 - 8 * (j : Int)) = (s : Int) := by rw [w64_id (by omega)]; omega
        have a5 : IntKind.u64.wrap (s : Int) = (s : Int) := u64_id (by omega)
        have b1 : (t : Int) < 32 ∧ t < 32 ∧ min s 32 = s := by omega
        have hsh := u32_shr x s (by omega)
        have hset : o.set t ((x >>> UInt32.ofNat s).toUInt8) = e.bytes.take (4 * i + (j + 1)) ++ zeros (32 - (4 * i + (j + 1))) := by
          have k1 := fill_zeros e.bytes 32 t (by simp; omega) (by simp)
          rw [bytes_at e t b1.2.1, show t / 4 = i by omega, show t % 4 = j by omega, ← hs, hx] at k1
          rw [ho, ← ht, k1, show 4 * i + (j + 1) = t + 1 by omega]
        simp [hj4, a1, a2, a3, a4, a5, b1, hsh, bv_u8, u8_word, B_set, hol, hw]
        exact ⟨_, _, Weak.re (by simp), hset⟩
      · intro o c ho
        simp [hw]
        exact ⟨o, _, Weak.re (by simp), ho⟩
    · intro o c ho
      have ho' : o = (sha b).bs := by rw [ho, hs, List.take_of_length_le (by simp)]; simp [zeros]
      subst ho'
      simp
      refine post_end (.inr rfl) ?_
      simp
end Go.Proofs.YtjlmpdbagmdbiaaDoor.WL

end
section
/-
  CHAPTER 12: a block's digest.
-/
namespace Go.Proofs.YtjlmpdbagmdbiaaDoor.WL
open Go
set_option maxHeartbeats 4000000
attribute [local irreducible] comp hb sha

def bBlock : Bytes := [98, 108, 111, 99, 107]
def Blk.dg (q : Blk) : Dg := sha (bBlock ++ q.bytes)
theorem B_block : B bBlock = [AV.v (.int .u8 98), .v (.int .u8 108), .v (.int .u8 111), .v (.int .u8 99), .v (.int .u8 107)] := (rfl)
theorem bdigest_meets (q : Blk) (h : q.bytes.length ≤ 50000000) (hn : q.qs.length ≤ 1000000) : Meets Tryd.prog Gt fn_block_Digest [q.avS] [] true (dv q.dg) [] := by
  refine meets_of_go mix k_block_Digest ⟨by simp, by simp, by simp⟩ ?_
  have hrl : bBlock.length = 5 := rfl
  have e : cat [bBlock, q.bytes] = bBlock ++ q.bytes := by simp [cat]
  have m1 := bwrite_meets (G := Gt) [] q (by simp; omega) hn
  rw [List.nil_append] at m1
  have m2 := bytes_meets (G := Gt) q.bytes (by omega)
  have m3 := of_meets [bBlock, q.bytes] (by simp) (by rw [e, List.length_append, hrl]; omega)
  rw [e] at m3
  unfold Blk.dg
  generalize sha (bBlock ++ q.bytes) = d at *
  generalize q.bytes = x at *
  have hx : List.take x.length x = x := List.take_of_length_le (by omega)
  have hB := B_block
  generalize bBlock = r at *
  have hr : List.take 5 r = r := List.take_of_length_le (by omega)
  simp [Blk.avS, dv]
  refine call_intro m1 ?_ ?_
  · simp [wrM, Blk.avS, dv]
  simp [wrM, Blk.avS, dv]
  refine call_intro m2 ?_ ?_
  · simp [wrM]
  simp [wrM]
  refine call_intro m3 ?_ ?_
  · simp [Bss, hB, hx, hr]
  simp
  refine post_end (.inr rfl) ?_
  simp
end Go.Proofs.YtjlmpdbagmdbiaaDoor.WL

end
section
/-
  CHAPTER 08, 13: what members, configurations and votes can be; digests.
-/
namespace Go.Proofs.YtjlmpdbagmdbiaaDoor.WL
open Go
set_option maxHeartbeats 4000000
variable {G : Nat → Option AV}
attribute [local irreducible] sha

def Mem.good (m : Mem) : Bool := decide (1 ≤ m.id) && decide (m.id ≤ 63) && decide (0 ≤ m.height) && decide (m.height ≤ 6)
/-- The member there can be, and is behind the one ahead. -/
def memOk (ms : List Mem) (j : Nat) : Bool := (ms[j]!).good && (decide (j = 0) || decide ((ms[j-1]!).id < (ms[j]!).id))
def Conf.good (c : Conf) : Bool := decide (0 ≤ c.epoch) && decide (c.epoch ≤ 1073741824) && decide (0 < c.ms.length) && decide (c.ms.length ≤ 10) && (List.range c.ms.length).all (memOk c.ms)
def faults (n : Nat) : Nat := (n - 1) / 3
def quorum (n : Nat) : Nat := (n + faults n) / 2 + 1

theorem cright_meets (m : Mem) : Meets Tryd.prog G fn_config_right [m.av] [] true (.v (.bool m.good)) [] := by
  refine meets_of_go mix k_config_right ⟨by simp, by simp, by simp⟩ ?_
  unfold Mem.good
  by_cases c1 : 1 ≤ m.id
  case neg =>
    simp [Mem.av, dv, c1]
    refine post_end (.inr rfl) ?_
    simp
  by_cases c2 : m.id ≤ 63
  case neg =>
    simp [Mem.av, dv, c1, c2]
    refine post_end (.inr rfl) ?_
    simp
  by_cases c3 : 0 ≤ m.height
  case neg =>
    simp [Mem.av, dv, c1, c2, c3]
    refine post_end (.inr rfl) ?_
    simp
  by_cases c4 : m.height ≤ 6
  case neg =>
    simp [Mem.av, dv, c1, c2, c3, c4]
    refine post_end (.inr rfl) ?_
    simp
  simp [Mem.av, dv, c1, c2, c3, c4]
  refine post_end (.inr rfl) ?_
  simp
theorem vgood_meets (v : Vote) : Meets Tryd.prog G fn_vote_Good [v.av] [] true (.v (.bool v.good)) [] := by
  refine meets_of_go mix k_vote_Good ⟨by simp, by simp, by simp⟩ ?_
  unfold Vote.good
  by_cases c1 : 1 ≤ v.kind
  case neg =>
    simp [Vote.av, dv, c1]
    refine post_end (.inr rfl) ?_
    simp
  by_cases c2 : v.kind ≤ 2
  case neg =>
    simp [Vote.av, dv, c1, c2]
    refine post_end (.inr rfl) ?_
    simp
  by_cases c3 : 0 ≤ v.epoch
  case neg =>
    simp [Vote.av, dv, c1, c2, c3]
    refine post_end (.inr rfl) ?_
    simp
  by_cases c4 : v.epoch ≤ 1073741824
  case neg =>
    simp [Vote.av, dv, c1, c2, c3, c4]
    refine post_end (.inr rfl) ?_
    simp
  by_cases c5 : 1 ≤ v.height
  case neg =>
    simp [Vote.av, dv, c1, c2, c3, c4, c5]
    refine post_end (.inr rfl) ?_
    simp
  by_cases c6 : v.height ≤ 1024
  case neg =>
    simp [Vote.av, dv, c1, c2, c3, c4, c5, c6]
    refine post_end (.inr rfl) ?_
    simp
  by_cases c7 : 0 ≤ v.round
  case neg =>
    simp [Vote.av, dv, c1, c2, c3, c4, c5, c6, c7]
    refine post_end (.inr rfl) ?_
    simp
  by_cases c8 : v.round ≤ 1024
  case neg =>
    simp [Vote.av, dv, c1, c2, c3, c4, c5, c6, c7, c8]
    refine post_end (.inr rfl) ?_
    simp
  by_cases c9 : 1 ≤ v.src
  case neg =>
    simp [Vote.av, dv, c1, c2, c3, c4, c5, c6, c7, c8, c9]
    refine post_end (.inr rfl) ?_
    simp
  by_cases c10 : v.src ≤ 63
  case neg =>
    simp [Vote.av, dv, c1, c2, c3, c4, c5, c6, c7, c8, c9, c10]
    refine post_end (.inr rfl) ?_
    simp
  simp [Vote.av, dv, c1, c2, c3, c4, c5, c6, c7, c8, c9, c10]
  refine post_end (.inr rfl) ?_
  simp
end Go.Proofs.YtjlmpdbagmdbiaaDoor.WL

end
section
/-
  CHAPTER 08: whether a configuration can be.
-/
namespace Go.Proofs.YtjlmpdbagmdbiaaDoor.WL
open Go
set_option maxHeartbeats 4000000
variable {G : Nat → Option AV}
attribute [local irreducible] sha

theorem memOk_pos {ms : List Mem} {j : Nat} (hj : 0 < j) (h : j < ms.length) : memOk ms j = ((ms[j]).good && decide ((ms[j-1]).id < (ms[j]).id)) := by
  have h1 : j - 1 < ms.length := by omega
  have h0 : j ≠ 0 := by omega
  simp [memOk, h, h1, h0]
theorem Conf.good_no {c : Conf} {j : Nat} (h : j < c.ms.length) (hb : memOk c.ms j = false) : c.good = false := by
  have : (List.range c.ms.length).all (memOk c.ms) = false := by
    rw [List.all_eq_false]
    exact ⟨j, List.mem_range.2 h, by simp [hb]⟩
  simp [Conf.good, this]
theorem cgood_meets (c : Conf) : Meets Tryd.prog G fn_config_Good [c.av] [] true (.v (.bool c.good)) [] := by
  refine meets_of_go mix k_config_Good ⟨by simp, by simp, by simp⟩ ?_
  by_cases c1 : c.epoch < 0
  · have d1 : ¬ 0 ≤ c.epoch := by omega
    simp [Conf.av, c1]
    refine post_end (.inr rfl) ?_
    simp [Conf.good, d1]
  by_cases c2 : 1073741824 < c.epoch
  · have d1 : ¬ c.epoch ≤ 1073741824 := by omega
    simp [Conf.av, c1, c2]
    refine post_end (.inr rfl) ?_
    simp [Conf.good, d1]
  by_cases c3 : c.ms = []
  · simp [Conf.av, c1, c2, c3]
    refine post_end (.inr rfl) ?_
    simp [Conf.good, c3]
  by_cases c4 : (10 : Int) < (c.ms.length : Nat)
  · have d1 : ¬ c.ms.length ≤ 10 := by omega
    simp [Conf.av, c1, c2, c3, c4]
    refine post_end (.inr rfl) ?_
    simp [Conf.good, d1]
  have c3' : 0 < c.ms.length := List.length_pos_iff.2 c3
  have hno := @Conf.good_no c
  have hyes : (∀ j, j < c.ms.length → memOk c.ms j = true) → c.good = true := by
    intro h
    have : (List.range c.ms.length).all (memOk c.ms) = true := List.all_eq_true.2 fun j hj => h j (List.mem_range.1 hj)
    simp only [Conf.good, this, Bool.and_true, Bool.and_eq_true, decide_eq_true_eq]
    omega
  generalize hr : c.good = res at *
  generalize hms : c.ms = ms at *
  generalize hep : c.epoch = ep at *
  simp [Conf.av, c1, c2, c3, c4, hms, hep]
  refine go_up ms.length (fun j (_ : Unit) => ∀ i, i < j → memOk ms i = true) (fun j (_ : Unit) q => ⟨[(1, .ptr 1 q 0), (26, .sl 34 (Mems ms)), (27, .v (.int .i64 (ms.length : Nat))), (28, .v (.int .i64 (j : Nat)))], [(1, .var q (.node [.v (.int .i64 ep), .sl 34 (Mems ms)]))], q + 1⟩) () _ (Weak.re (by simp)) (by intro i h; omega) ?_ ?_
  · intro j _ q hj hx
    have hw : IntKind.i64.wrap ((j : Int) + 1) = ((j + 1 : Nat) : Int) := w64_succ (by omega)
    have hs : IntKind.i64.wrap ((j : Int) - 1) = (j : Int) - 1 := w64_id (by omega)
    have m1 := cright_meets (G := G) ms[j]
    have hnext : memOk ms j = true → ∀ i, i < j + 1 → memOk ms i = true := by
      intro h i hi
      rcases (show i < j ∨ i = j by omega) with h1 | rfl
      · exact hx i h1
      · exact h
    simp [hj]
    refine call_intro m1 ?_ ?_
    · simp
    simp
    cases hg : ms[j].good
    · have hb : memOk ms j = false := by simp [memOk, hj, hg]
      simp [hg]
      refine post_end (.inr rfl) ?_
      simp [hno hj hb]
    by_cases hj0 : j = 0
    · subst hj0
      have hb : memOk ms 0 = true := by simp [memOk, hj, hg]
      have hw1 : IntKind.i64.wrap 1 = 1 := w64_id (by omega)
      simp [hg, hw1]
      exact ⟨(), _, Weak.re (by simp), hnext hb⟩
    · have hj1 : 0 < j := by omega
      have hj2 : (j : Int) - 1 < ms.length := by omega
      have hj3 : ((j : Int) - 1).toNat = j - 1 := by omega
      have hj4 : j - 1 < ms.length := by omega
      have hj5 : (1 : Int) ≤ (j : Int) := by omega
      have e := memOk_pos (by omega) hj
      by_cases hl : ms[j-1].id < ms[j].id
      · have hb : memOk ms j = true := by rw [e, hg]; simp [hl]
        have hl' : ¬ ms[j].id ≤ ms[j-1].id := by omega
        simp [hg, hw, hs, hj0, hj1, hj2, hj3, hj4, hj5, hl', Mem.av]
        exact ⟨(), _, Weak.re (by simp), hnext hb⟩
      · have hb : memOk ms j = false := by rw [e, hg]; simp [hl]
        have hl' : ms[j].id ≤ ms[j-1].id := by omega
        simp [hg, hs, hj0, hj1, hj2, hj3, hj4, hj5, hl', Mem.av]
        refine post_end (.inr rfl) ?_
        simp [hno hj hb]
  · intro _ q hx
    have hb := hyes hx
    subst hb
    simp
    refine post_end (.inr rfl) ?_
    simp
end Go.Proofs.YtjlmpdbagmdbiaaDoor.WL

end
section
/-
  CHAPTER 04: contracts of the program.
-/
namespace Go.Proofs.YtjlmpdbagmdbiaaDoor.WL
open Go
set_option maxHeartbeats 4000000
attribute [local irreducible] comp hb sha leafD pairD secD shutD bitD wholeD pubD ofD

@[simp] theorem le_max16 : 16 ≤ maxLen := by decide
theorem Dgs_snoc2 (x : List Dg) (p q : Dg) : Dgs x ++ [AV.arr 1 (B p.bs), AV.arr 1 (B q.bs)] = Dgs (x ++ [p, q]) := by simp [Dgs]
theorem cat_one (a : Bytes) : cat [a] = a := by simp [cat]
theorem shut_meets (s : Dg) : Meets Tryd.prog Gt fn_once_shut [dv s] [] true (dv (shutD s)) [] := by
  refine meets_of_go mix k_once_shut ⟨by simp, by simp, by simp⟩ ?_
  have h1 := of_meets [s.bs] (by simp) (by rw [cat_one]; simp)
  rw [cat_one] at h1
  have e2 : sha s.bs = shutD s := by unfold shutD; rfl
  rw [e2] at h1
  simp
  refine call_intro h1 ?_ ?_
  · simp [Bss]
  simp
  refine post_end (.inr rfl) ?_
  simp

theorem whole_meets (l : List Dg) (h : l.length ≤ 100000) : Meets Tryd.prog Gt fn_once_whole [.sl 32 (Dgs l)] [] true (dv (wholeD l)) [] := by
  refine meets_of_go mix k_once_whole ⟨by simp, by simp, by simp⟩ ?_
  have hfl := flatD_length l
  have h1 := of_meets [flatD l] (by simp) (by rw [cat_one]; omega)
  rw [cat_one] at h1
  have e2 : sha (flatD l) = wholeD l := by unfold wholeD; rfl
  rw [e2] at h1
  have hw := wdigest_meets (G := Gt) [] l (by simp; omega)
  have hb := bytes_meets (G := Gt) (flatD l) (by omega)
  rw [List.nil_append] at hw
  generalize flatD l = x at *
  generalize wholeD l = y at *
  have htx : List.take x.length x = x := List.take_of_length_le (by omega)
  simp
  refine call_intro hw ?_ ?_
  · simp [wrM]
  simp [wrM]
  refine call_intro hb ?_ ?_
  · simp [wrM]
  simp [wrM]
  refine call_intro h1 ?_ ?_
  · simp [Bss, htx]
  simp
  refine post_end (.inr rfl) ?_
  simp

end Go.Proofs.YtjlmpdbagmdbiaaDoor.WL

end
section
/-
  CHAPTER 04: contracts of the program: signing, checking.
-/
namespace Go.Proofs.YtjlmpdbagmdbiaaDoor.WL
open Go
set_option maxHeartbeats 4000000
attribute [local irreducible] comp hb sha leafD pairD secD shutD wholeD pubD ofD

theorem and_one (n : Nat) (h : n < 4294967296) : bitsOp .and .i64 (n : Int) 1 = ((n % 2 : Nat) : Int) := by
  simp only [bitsOp, BitVec.toNat_and, BitVec.toNat_ofInt]
  have e1 : ((n : Int) % ((2 ^ IntKind.i64.bits : Nat) : Int)).toNat = n := by
    rw [← Int.natCast_emod, Int.toNat_natCast, Nat.mod_eq_of_lt (by simp only [IntKind.bits]; omega)]
  have e2 : ((1 : Int) % ((2 ^ IntKind.i64.bits : Nat) : Int)).toNat = 1 := by decide
  rw [e1, e2, Nat.and_one_is_mod, IntKind.wrap_i64]
  omega
theorem tdivN (j k : Nat) : Int.tdiv (j : Int) (k : Int) = ((j / k : Nat) : Int) := by
  rw [Int.tdiv_eq_ediv_of_nonneg (by omega)]
  exact (Int.natCast_ediv j k).symm
theorem tmodN (j k : Nat) : Int.tmod (j : Int) (k : Int) = ((j % k : Nat) : Int) := by
  rw [Int.tmod_eq_emod_of_nonneg (by omega)]
  exact (Int.natCast_emod j k).symm

theorem bit_meets {G : Nat → Option AV} (d : Dg) (i : Nat) (hi : i < 256) : Meets Tryd.prog G fn_once_bit [dv d, .v (.int .i64 (i : Nat))] [] true (.v (.int .i64 (bitD d i : Nat))) [] := by
  refine meets_of_go mix k_once_bit ⟨by simp, by simp, by simp⟩ ?_
  obtain ⟨q, hq⟩ : ∃ q : Nat, i / 8 = q := ⟨_, rfl⟩
  obtain ⟨r, hr⟩ : ∃ r : Nat, i % 8 = r := ⟨_, rfl⟩
  have d1 : Int.tdiv (i : Int) 8 = (q : Int) := by have := tdivN i 8; rw [hq] at this; exact this
  have d2 : Int.tmod (i : Int) 8 = (r : Int) := by have := tmodN i 8; rw [hr] at this; exact this
  have w0 : IntKind.i64.wrap (q : Int) = (q : Int) := w64_id (by omega)
  have hq32 : q < 32 := by omega
  have hq32i : (q : Int) < 32 := by omega
  have hql : q < d.bs.length := by rw [Dg.length]; omega
  obtain ⟨s, hs⟩ : ∃ s : Nat, 7 - r = s := ⟨_, rfl⟩
  have w1 : IntKind.i64.wrap (7 - (r : Int)) = (s : Int) := by rw [w64_id (by omega)]; omega
  obtain ⟨b, hb⟩ : ∃ b, d.bs[q] = b := ⟨_, rfl⟩
  have hbn := b.toNat_lt
  have hmin : min s 8 = s := by omega
  obtain ⟨v, hv⟩ : ∃ v : Nat, b.toNat / 2 ^ s = v := ⟨_, rfl⟩
  have hvl : v ≤ b.toNat := by rw [← hv]; exact Nat.div_le_self _ _
  have hfd : Int.fdiv (b.toNat : Int) (2 ^ s) = (v : Int) := by
    rw [Int.fdiv_eq_ediv_of_nonneg _ (by exact Int.le_of_lt (Int.pow_pos (by decide))), ← hv, Int.natCast_ediv]
    simp
  have hfd2 : (b.toNat : Int) / (2 ^ s) = (v : Int) := by
    rw [← hv, Int.natCast_ediv]
    simp
  have w2 : IntKind.i64.wrap (v : Int) = (v : Int) := w64_id (by omega)
  have ha := and_one v (by omega)
  have hbit : v % 2 = bitD d i := by
    unfold bitD
    rw [hq, hr, hs, List.getD_eq_getElem?_getD, List.getElem?_eq_getElem hql, Option.getD_some, hb, hv]
  rw [hbit] at ha
  have hget : d.bs[q]? = some b := by rw [List.getElem?_eq_getElem hql, hb]
  simp [d1, d2, w0, hq32, hq32i, w1, hget, hb, hmin, hfd, hfd2, w2, ha]
  refine post_end (.inr rfl) ?_
  simp

theorem of4_bad (d : Dg) (o s : List Dg) (h : ¬ (o.length = 32 ∧ s.length = 32)) : Meets Tryd.prog Gt fn_once_Of [dv d, .node [.sl 32 (Dgs o), .sl 32 (Dgs s)]] [] true (.tup [dv Dg.zero, .v (.bool false)]) [] := by
  refine meets_of_go mix k_once_Of ⟨by simp, by simp, by simp⟩ ?_
  by_cases h1 : o.length = 32
  · have h2 : ¬ s.length = 32 := fun e => h ⟨h1, e⟩
    have h3 : ¬ (s.length : Int) = 32 := by omega
    simp [h1, h2, h3]
    refine post_end (.inr rfl) ?_
    simp
  · have h3 : ¬ (o.length : Int) = 32 := by omega
    simp [h1, h3]
    refine post_end (.inr rfl) ?_
    simp

theorem of4_meets (d : Dg) (o s : List Dg) (N : Nat) (hN : N = 32) (ho : o.length = N) (hs : s.length = N) : Meets Tryd.prog Gt fn_once_Of [dv d, .node [.sl 32 (Dgs o), .sl 32 (Dgs s)]] [] true (.tup [dv (ofD d o s N), .v (.bool true)]) [] := by
  refine meets_of_go mix k_once_Of ⟨by simp, by simp, by simp⟩ ?_
  have hoi : (o.length : Int) = 32 := by omega
  have hsi : (s.length : Int) = 32 := by omega
  have ho32 : o.length = 32 := by omega
  have hs32 : s.length = 32 := by omega
  simp [ho32, hs32]
  refine go_up N (fun j (x : List Dg) => x = ofL d o s j) (fun j x c => ⟨[(2, .ptr 2 c 0), (3, .ptr 3 c 0), (4, .ptr 4 c 0), (6, .row 6 32 c 0 x.length), (21, .v (.int .i64 (j : Nat)))],
    [(2, .var c (dv d)), (3, .var c (.node [.sl 32 (Dgs o), .sl 32 (Dgs s)])), (4, .var c (dv Dg.zero)), (6, .rows c 32 (Dgs x))], c + 1⟩) [] _ (Weak.re (by simp)) rfl ?_ ?_
  · intro j x c hj hx
    have hw : IntKind.i64.wrap ((j : Int) + 1) = ((j + 1 : Nat) : Int) := w64_succ (by omega)
    have hj8 : (j : Int) < 32 := by omega
    have hxl : x.length = 2 * j := by rw [hx, ofL_length]
    have f1 : fitsB (x.length + 2) 32 := fits (by omega) (by omega)
    have hbt := bit_meets (G := Gt) d j (by omega)
    have hle := bitD_le d j
    have hjo : j < o.length := by omega
    have hjs : j < s.length := by omega
    have hnx : x ++ two (bitD d j) (shutD o[j]) s[j] = ofL d o s (j + 1) := by
      have e1 : o.getD j Dg.zero = o[j] := by rw [List.getD_eq_getElem?_getD, List.getElem?_eq_getElem hjo]; rfl
      have e2 : s.getD j Dg.zero = s[j] := by rw [List.getD_eq_getElem?_getD, List.getElem?_eq_getElem hjs]; rfl
      rw [hx, ← e1, ← e2]
      rfl
    generalize bitD d j = b at *
    have t1 := shut_meets o[j]
    generalize shutD o[j] = a at *
    obtain ⟨z, hz⟩ : ∃ z, s[j] = z := ⟨_, rfl⟩
    rw [hz] at hnx
    rcases hle with rfl | rfl
    · rw [two, if_pos rfl] at hnx
      have w1 : IntKind.i64.wrap (1 - 0) = 1 := by decide
      have w2 : IntKind.i64.wrap 1 = 1 := by decide
      simp [hj8, hjo, hjs, hz]
      refine call_intro t1 ?_ ?_
      · simp
      simp [hjo, hjs, hz]
      refine call_intro hbt ?_ ?_
      · simp
      simp [f1, hw, w2, Dgs_snoc2]
      exact ⟨x ++ [a, z], _, Weak.re (by simp), hnx⟩
    · rw [two, if_neg (by omega)] at hnx
      have w1 : IntKind.i64.wrap 0 = 0 := by decide
      simp [hj8, hjo, hjs, hz]
      refine call_intro t1 ?_ ?_
      · simp
      simp [hjo, hjs, hz]
      refine call_intro hbt ?_ ?_
      · simp
      simp [f1, hw, w1, Dgs_snoc2]
      exact ⟨x ++ [z, a], _, Weak.re (by simp), hnx⟩
  · intro x c hx
    have hxl : x.length = 2 * N := by rw [hx, ofL_length]
    have hwh := whole_meets x (by omega)
    have hp : wholeD x = ofD d o s N := by rw [hx]; unfold ofD; rfl
    rw [hp] at hwh
    generalize ofD d o s N = y at *
    subst hN
    have htx : List.take x.length x = x := List.take_of_length_le (by omega)
    simp
    refine call_intro hwh ?_ ?_
    · simp [htx]
    simp [htx]
    refine post_end (.inr rfl) ?_
    simp

end Go.Proofs.YtjlmpdbagmdbiaaDoor.WL

end
section
/-
  CHAPTER 03: contracts of the program.
-/
namespace Go.Proofs.YtjlmpdbagmdbiaaDoor.WL
open Go
set_option maxHeartbeats 4000000
attribute [local irreducible] comp hb sha leafD pairD

theorem pair1_meets (a b : Dg) : Meets Tryd.prog Gt fn_sha_Pair [.v (.int .u8 1), dv a, dv b] [] true (dv (pairD a b)) [] := by
  unfold pairD
  exact pair_meets 1 a b

theorem leaf_meets (b : Bytes) (h : b.length ≤ 1000000) : Meets Tryd.prog Gt fn_tree_Leaf [.sl 1 (B b)] [] true (dv (leafD b)) [] := by
  refine meets_of_go mix k_tree_Leaf ⟨by simp, by simp, by simp⟩ ?_
  have e : cat [[0], b] = 0 :: b := by simp [cat]
  have h1 := of_meets [[0], b] (by simp) (by rw [e, List.length_cons]; omega)
  rw [e] at h1
  have e2 : sha (0 :: b) = leafD b := by unfold leafD; rfl
  rw [e2] at h1
  simp
  refine call_intro h1 ?_ ?_
  · simp [Bss, B_one]
  simp
  refine post_end (.inr rfl) ?_
  simp

end Go.Proofs.YtjlmpdbagmdbiaaDoor.WL

end
section
/-
  CHAPTER 03: contracts of the program: paths.
-/
namespace Go.Proofs.YtjlmpdbagmdbiaaDoor.WL
open Go
set_option maxHeartbeats 4000000
attribute [local irreducible] comp hb sha leafD pairD

theorem checkP_out (root leaf : Dg) (at_ count : Int) (path : List Dg) (h : at_ < 0 ∨ count ≤ at_) : Meets Tryd.prog Gt fn_tree_Check [dv root, dv leaf, .v (.int .i64 at_), .v (.int .i64 count), .sl 32 (Dgs path)] [] true (.v (.bool false)) [] := by
  refine meets_of_go mix k_tree_Check ⟨by simp, by simp, by simp⟩ ?_
  by_cases c1 : at_ < 0
  · simp [c1]
    refine post_end (.inr rfl) ?_
    simp
  · have c2 : count ≤ at_ := by omega
    simp [c1, c2]
    refine post_end (.inr rfl) ?_
    simp

theorem checkP_meets (root leaf : Dg) (at_ count : Nat) (path : List Dg) (h : at_ < count) (hc : count < 9223372036854775808) :
    Meets Tryd.prog Gt fn_tree_Check [dv root, dv leaf, .v (.int .i64 (at_ : Nat)), .v (.int .i64 (count : Nat)), .sl 32 (Dgs path)] [] true (.v (.bool (checkD root leaf at_ count path))) [] := by
  refine meets_of_go mix k_tree_Check ⟨by simp, by simp, by simp⟩ ?_
  have c0 : ¬ (at_ : Int) < 0 := by omega
  have c1 : ¬ (count : Int) ≤ (at_ : Nat) := by omega
  have c2 : ¬ count ≤ at_ := by omega
  simp [c0, c1, c2]
  refine go_wh (fun a : Dg × Nat × Nat × List Dg => a.2.2.1) (fun a => a.2.1 < a.2.2.1 ∧ a.2.2.1 < 9223372036854775808 ∧ checkD root a.1 a.2.1 a.2.2.1 a.2.2.2 = checkD root leaf at_ count path)
    (fun a c => ⟨[(2, .v (.int .i64 (a.2.1 : Nat))), (3, .v (.int .i64 (a.2.2.1 : Nat))), (4, .sl 32 (Dgs a.2.2.2)), (5, .ptr 5 c 0), (6, .ptr 6 c 0)], [(5, .var c (dv root)), (6, .var c (dv a.1))], c + 1⟩) (leaf, at_, count, path) _ (Weak.re (by simp)) ⟨h, hc, rfl⟩ ?_
  rintro ⟨lf, i, n, p⟩ c ⟨hi, hn, hr⟩
  simp only at hi hn hr
  rw [← hr]
  by_cases h1 : 1 < n
  · have c3 : (1 : Int) < (n : Nat) := by omega
    have hx := xor_sib i (by omega)
    have hd : Int.tdiv (i : Int) 2 = ((i / 2 : Nat) : Int) := by rw [Int.tdiv_eq_ediv_of_nonneg (by omega)]; omega
    have hw : IntKind.i64.wrap ((i : Int) / 2) = (i : Int) / 2 := w64_id (by omega)
    have hw1 : IntKind.i64.wrap ((n : Int) - 1) = ((n - 1 : Nat) : Int) := by rw [w64_id (by omega)]; omega
    have hd2 : Int.tdiv ((n - 1 : Nat) : Int) 2 = (((n - 1) / 2 : Nat) : Int) := by rw [Int.tdiv_eq_ediv_of_nonneg (by omega)]; omega
    have hw2 : IntKind.i64.wrap (((n - 1) / 2 : Nat) : Int) = (((n - 1) / 2 : Nat) : Int) := w64_id (by omega)
    have hw3 : IntKind.i64.wrap ((((n - 1) / 2 : Nat) : Int) + 1) = (((n + 1) / 2 : Nat) : Int) := by rw [w64_id (by omega)]; omega
    obtain ⟨s, hs⟩ : ∃ s, sib i = s := ⟨_, rfl⟩
    rw [hs] at hx
    obtain ⟨n1, hn1⟩ : ∃ n1, n - 1 = n1 := ⟨_, rfl⟩
    rw [hn1] at hw1 hd2 hw2 hw3
    obtain ⟨n2, hn2⟩ : ∃ n2, n1 / 2 = n2 := ⟨_, rfl⟩
    rw [hn2] at hd2 hw2 hw3
    by_cases h2 : n ≤ s
    · have c4 : (n : Int) ≤ (s : Nat) := by omega
      have hu := checkD_up root lf i n p h1 (by omega)
      simp [c3, h1, hx, h2, c4, hd, hw, hw1, hd2, hw2, hw3]
      exact ⟨(lf, i / 2, (n + 1) / 2, p), _, Weak.re (by simp), ⟨by show i / 2 < (n + 1) / 2; omega, by show (n + 1) / 2 < _; omega, by dsimp only; rw [← hu, hr]⟩, by show (n + 1) / 2 < n; omega⟩
    · have c4 : ¬ (n : Int) ≤ (s : Nat) := by omega
      cases p with
      | nil =>
        have hu := checkD_none root lf i n h1 (by omega)
        simp [c3, h1, hx, h2, c4]
        refine post_end (.inr rfl) ?_
        simp [hu]
      | cons q ps =>
        have hu := checkD_pair root lf i n q ps h1 (by omega)
        have hn0 : ¬ ((ps.length : Int) + 1 = 0) := by omega
        have hn3 : (0 : Int) < (ps.length : Int) + 1 := by omega
        have hn4 : (1 : Int) ≤ (ps.length : Int) + 1 := by omega
        have hDg : Dgs (q :: ps) = dv q :: Dgs ps := rfl
        by_cases h3 : i % 2 = 1
        · have h4 : s < i := by rw [← hs]; unfold sib; rw [if_pos h3]; omega
          have c5 : (s : Int) < (i : Nat) := by omega
          rw [if_pos h3] at hu
          simp [c3, h1, hx, h2, c4, hn0, hn3, c5, h4, hDg]
          refine call_intro (pair1_meets q lf) ?_ ?_
          · simp
          simp [hd, hw, hw1, hd2, hw2, hw3, hn4]
          exact ⟨(pairD q lf, i / 2, (n + 1) / 2, ps), _, Weak.re (by simp), ⟨by show i / 2 < (n + 1) / 2; omega, by show (n + 1) / 2 < _; omega, by dsimp only; rw [← hu, hr]⟩, by show (n + 1) / 2 < n; omega⟩
        · have h4 : ¬ s < i := by rw [← hs]; unfold sib; rw [if_neg h3]; omega
          have c5 : ¬ (s : Int) < (i : Nat) := by omega
          rw [if_neg h3] at hu
          simp [c3, h1, hx, h2, c4, hn0, hn3, c5, h4, hDg]
          refine call_intro (pair1_meets lf q) ?_ ?_
          · simp
          simp [hd, hw, hw1, hd2, hw2, hw3, hn4]
          exact ⟨(pairD lf q, i / 2, (n + 1) / 2, ps), _, Weak.re (by simp), ⟨by show i / 2 < (n + 1) / 2; omega, by show (n + 1) / 2 < _; omega, by dsimp only; rw [← hu, hr]⟩, by show (n + 1) / 2 < n; omega⟩
  · have c3 : ¬ (1 : Int) < (n : Nat) := by omega
    have hu := checkD_end root lf i n p (by omega)
    rw [hu]
    by_cases h5 : p = []
    · subst h5
      simp [c3, h1]
      refine post_end (.inr rfl) ?_
      simp
    · have h6 : ¬ p.length = 0 := by intro e; exact h5 (List.eq_nil_of_length_eq_zero e)
      have h7 : ¬ ((p.length : Int) = 0) := by omega
      simp [c3, h1, h6, h7, h5]
      refine post_end (.inr rfl) ?_
      simp
end Go.Proofs.YtjlmpdbagmdbiaaDoor.WL

end
section
/-
  CHAPTER 05: contracts of the program: trees.
-/
namespace Go.Proofs.YtjlmpdbagmdbiaaDoor.WL
open Go
set_option maxHeartbeats 4000000
attribute [local irreducible] comp hb sha leafD pairD secD shutD wholeD pubD ofD

theorem kleaf_meets (p : Dg) : Meets Tryd.prog Gt fn_keys_leaf [dv p] [] true (dv (leafK p)) [] := by
  refine meets_of_go mix k_keys_leaf ⟨by simp, by simp, by simp⟩ ?_
  have h := leaf_meets p.bs (by simp)
  unfold leafK
  generalize leafD p.bs = y at *
  simp
  refine call_intro h ?_ ?_
  · simp
  simp
  refine post_end (.inr rfl) ?_
  simp

theorem kcheck_meets (root : Dg) (h : Int) (d : Dg) (s : Sig) (hh : -9223372036854775808 ≤ h ∧ h < 9223372036854775808) (hl : -9223372036854775808 ≤ s.leaf ∧ s.leaf < 9223372036854775808) :
    Meets Tryd.prog Gt fn_keys_Check [.node [dv root, .v (.int .i64 h)], dv d, s.avS] [] true (.v (.bool (checkK root h d s))) [] := by
  refine meets_of_go mix k_keys_Check ⟨by simp, by simp, by simp⟩ ?_
  unfold checkK
  by_cases h1 : s.op.length = 32 ∧ s.sh.length = 32
  · have m1 := of4_meets d s.op s.sh 32 rfl h1.1 h1.2
    generalize ofD d s.op s.sh 32 = y at *
    have m2 := kleaf_meets y
    generalize leafK y = z at *
    by_cases h2 : 0 ≤ h
    · by_cases h3 : h ≤ 6
      · obtain ⟨n, rfl⟩ : ∃ n : Nat, h = n := ⟨h.toNat, by omega⟩
        have hmin : min n 64 = n := by omega
        obtain ⟨q, hq⟩ : ∃ q : Nat, q = 2 ^ n := ⟨_, rfl⟩
        have hq64 : q ≤ 64 := by rw [hq]; exact Nat.le_trans (Nat.pow_le_pow_right (by omega) (show n ≤ 6 by omega)) (by decide)
        have hqi : ((2 : Int) ^ n) = (q : Int) := by rw [hq]; simp
        have w1 : IntKind.i64.wrap (q : Int) = (q : Int) := w64_id (by omega)
        have hn6 : (n : Int) ≤ 6 := h3
        rw [Int.toNat_natCast, ← hq]
        by_cases h4 : 0 ≤ s.leaf ∧ s.leaf < (q : Nat)
        · obtain ⟨i, hi⟩ : ∃ i : Nat, s.leaf = i := ⟨s.leaf.toNat, by omega⟩
          rw [hi] at h4
          have m3 := checkP_meets root z i q s.path (by omega) (by omega)
          rw [hi, Int.toNat_natCast]
          generalize checkD root z i q s.path = e at *
          simp [Sig.avS]
          refine call_intro m1 ?_ ?_
          · simp
          simp [h2, h3, hn6]
          refine call_intro m2 ?_ ?_
          · simp
          simp [hmin, hqi, w1, hi]
          refine call_intro m3 ?_ ?_
          · simp
          simp
          refine post_end (.inr rfl) ?_
          have h5 : i < q := by omega
          simp [h1, h5]
        · have m3 := checkP_out root z s.leaf (q : Int) s.path (by omega)
          simp [Sig.avS]
          refine call_intro m1 ?_ ?_
          · simp
          simp [h2, h3, hn6]
          refine call_intro m2 ?_ ?_
          · simp
          simp [hmin, hqi, w1]
          refine call_intro m3 ?_ ?_
          · simp
          simp
          refine post_end (.inr rfl) ?_
          simp [h4]
      · simp [Sig.avS]
        refine call_intro m1 ?_ ?_
        · simp
        simp [h2, h3]
        refine post_end (.inr rfl) ?_
        simp [h3]
    · simp [Sig.avS]
      refine call_intro m1 ?_ ?_
      · simp
      simp [h2]
      refine post_end (.inr rfl) ?_
      simp [h2]
  · have m1 := of4_bad d s.op s.sh h1
    simp [Sig.avS]
    refine call_intro m1 ?_ ?_
    · simp
    simp
    refine post_end (.inr rfl) ?_
    simp [h1]
end Go.Proofs.YtjlmpdbagmdbiaaDoor.WL

end
section
/-
  CHAPTER 08, 13: quorums, digests, whether a vote is right.
-/
namespace Go.Proofs.YtjlmpdbagmdbiaaDoor.WL
open Go
set_option maxHeartbeats 4000000
variable {G : Nat → Option AV}
attribute [local irreducible] sha comp hb checkK

theorem faults_int {n : Nat} : (if (n : Int) - 1 < 0 then 0 else (n : Int) - 1).tdiv 3 = (faults n : Nat) := by
  unfold faults
  rcases Nat.eq_zero_or_pos n with h | h
  · subst h; decide
  · have : (if (n : Int) - 1 < 0 then 0 else (n : Int) - 1) = ((n - 1 : Nat) : Int) := by split <;> omega
    rw [this]
    rfl
theorem cfaults_meets (c : Conf) (h : c.ms.length ≤ 1000000) : Meets Tryd.prog G fn_config_Faults [c.av] [] true (.v (.int .i64 (faults c.ms.length : Nat))) [] := by
  refine meets_of_go mix k_config_Faults ⟨by simp, by simp, by simp⟩ ?_
  have e := @faults_int c.ms.length
  have hs : IntKind.i64.wrap ((c.ms.length : Int) - 1) = (c.ms.length : Int) - 1 := w64_id (by omega)
  have hf : IntKind.i64.wrap (faults c.ms.length : Nat) = (faults c.ms.length : Nat) := w64_id (by unfold faults; omega)
  generalize faults c.ms.length = f at *
  simp [Conf.av, hs, e, hf]
  refine post_end (.inr rfl) ?_
  simp
theorem cquorum_meets (c : Conf) (h : c.ms.length ≤ 1000000) : Meets Tryd.prog G fn_config_Quorum [c.av] [] true (.v (.int .i64 (quorum c.ms.length : Nat))) [] := by
  refine meets_of_go mix k_config_Quorum ⟨by simp, by simp, by simp⟩ ?_
  have m1 := cfaults_meets (G := G) c h
  have hf : faults c.ms.length ≤ 1000000 := by unfold faults; omega
  have h1 : IntKind.i64.wrap ((c.ms.length : Int) + (faults c.ms.length : Nat)) = (c.ms.length : Int) + (faults c.ms.length : Nat) := w64_id (by omega)
  have h2 : IntKind.i64.wrap (IntKind.i64.wrap (((c.ms.length : Int) + (faults c.ms.length : Nat)).tdiv 2) + 1) = (quorum c.ms.length : Nat) := by
    have h4 : ((c.ms.length : Int) + (faults c.ms.length : Nat)).tdiv 2 = ((c.ms.length + faults c.ms.length) / 2 : Nat) := rfl
    have h5 : IntKind.i64.wrap (((c.ms.length + faults c.ms.length) / 2 : Nat) : Int) = ((c.ms.length + faults c.ms.length) / 2 : Nat) := w64_id (by omega)
    rw [h4, h5]
    exact w64_succ (by omega)
  generalize quorum c.ms.length = q at *
  generalize faults c.ms.length = f at *
  simp [Conf.av]
  refine call_intro m1 ?_ ?_
  · simp [Conf.av]
  simp [h1, h2]
  refine post_end (.inr rfl) ?_
  simp
def bConfig : Bytes := [99, 111, 110, 102, 105, 103]
def Conf.dg (c : Conf) : Dg := sha (bConfig ++ c.bytes)
theorem B_config : B bConfig = [AV.v (.int .u8 99), .v (.int .u8 111), .v (.int .u8 110), .v (.int .u8 102), .v (.int .u8 105), .v (.int .u8 103)] := (rfl)
def bVote : Bytes := [118, 111, 116, 101]
def Vote.signs (v : Vote) : Dg := sha (bVote ++ v.head)
theorem B_vote : B bVote = [AV.v (.int .u8 118), .v (.int .u8 111), .v (.int .u8 116), .v (.int .u8 101)] := (rfl)
theorem memsB_length (ms : List Mem) : (memsB ms).length = ms.length * 48 := by
  induction ms with
  | nil => rfl
  | cons m ms ih =>
    show (memB m ++ memsB ms).length = _
    rw [List.length_append, ih]
    simp [memB, nums_length]
    omega
theorem Conf.bytes_len (c : Conf) : c.bytes.length = 16 + c.ms.length * 48 := by simp [Conf.bytes, nums_length, memsB_length]
theorem Vote.head_len (v : Vote) : v.head.length = 72 := by simp [Vote.head, nums_length]

theorem cdigest_meets (c : Conf) (h : c.ms.length ≤ 1000) : Meets Tryd.prog Gt fn_config_Digest [c.av] [] true (dv c.dg) [] := by
  refine meets_of_go mix k_config_Digest ⟨by simp, by simp, by simp⟩ ?_
  have hrl : bConfig.length = 6 := rfl
  have hb := c.bytes_len
  have e : cat [bConfig, c.bytes] = bConfig ++ c.bytes := by simp [cat]
  have m1 := cwrite_meets (G := Gt) [] c (by simp) h
  rw [List.nil_append] at m1
  have m2 := bytes_meets (G := Gt) c.bytes (by omega)
  have m3 := of_meets [bConfig, c.bytes] (by simp) (by rw [e, List.length_append, hrl]; omega)
  rw [e] at m3
  unfold Conf.dg
  generalize sha (bConfig ++ c.bytes) = d at *
  generalize c.bytes = x at *
  have hx : List.take x.length x = x := List.take_of_length_le (by omega)
  have hB := B_config
  generalize bConfig = r at *
  have hr : List.take 6 r = r := List.take_of_length_le (by omega)
  simp [Conf.av, dv]
  refine call_intro m1 ?_ ?_
  · simp [wrM, Conf.av, dv]
  simp [wrM, Conf.av, dv]
  refine call_intro m2 ?_ ?_
  · simp [wrM]
  simp [wrM]
  refine call_intro m3 ?_ ?_
  · simp [Bss, hB, hx, hr]
  simp
  refine post_end (.inr rfl) ?_
  simp
theorem vsigns_meets (v : Vote) : Meets Tryd.prog Gt fn_vote_Signs [v.av] [] true (dv v.signs) [] := by
  refine meets_of_go mix k_vote_Signs ⟨by simp, by simp, by simp⟩ ?_
  have hrl : bVote.length = 4 := rfl
  have hb := v.head_len
  have e : cat [bVote, v.head] = bVote ++ v.head := by simp [cat]
  have m1 := vhead_meets (G := Gt) [] v (by simp)
  rw [List.nil_append] at m1
  have m2 := bytes_meets (G := Gt) v.head (by omega)
  have m3 := of_meets [bVote, v.head] (by simp) (by rw [e, List.length_append, hrl]; omega)
  rw [e] at m3
  unfold Vote.signs
  generalize sha (bVote ++ v.head) = d at *
  generalize v.head = x at *
  have hx : List.take x.length x = x := List.take_of_length_le (by omega)
  have hB := B_vote
  generalize bVote = r at *
  have hr : List.take 4 r = r := List.take_of_length_le (by omega)
  simp [Vote.av, dv]
  refine call_intro m1 ?_ ?_
  · simp [wrM, Vote.av, dv]
  simp [wrM, Vote.av, dv]
  refine call_intro m2 ?_ ?_
  · simp [wrM]
  simp [wrM]
  refine call_intro m3 ?_ ?_
  · simp [Bss, hB, hx, hr]
  simp
  refine post_end (.inr rfl) ?_
  simp
end Go.Proofs.YtjlmpdbagmdbiaaDoor.WL

end
