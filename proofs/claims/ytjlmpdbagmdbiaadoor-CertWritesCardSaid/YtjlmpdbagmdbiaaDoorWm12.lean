/- Texts put together: S14j, S14f, S14m, L05a, L14a, L12a, L12b, L14b, P14, P14c, S14n, S14o, S13s. -/
import Derived.Test.YtjlmpdbagmdbiaaDoorWm11
section
/-
  CHAPTER 13: the reference: whether a vote is right.
-/
namespace Go.Proofs.YtjlmpdbagmdbiaaDoor.WL
open Go
set_option maxHeartbeats 8000000
variable {G : Nat → Option AV}
attribute [local irreducible] sha comp hb checkK idxOf Vote.good

theorem rvhead_meets (v : Vote) : Meets Tryd.prog G fn_r13_Head [v.av] [] true (.v (.string (mkS v.head))) [] := by
  refine meets_of_go mix k_r13_Head ⟨by simp, by simp, by simp⟩ ?_
  have m2 := rfdigest_meets (G := G) v.dg
  simp [Vote.av]
  refine go_up 5 (fun j (x : Bytes) => x = nums (List.take j [v.kind, v.epoch, v.height, v.round, v.src])) (fun j x q => ⟨[(1, .ptr 1 q 0), (3, .v (.string (mkS x))), (16, .arr 1 [.v (.int .i64 v.kind), .v (.int .i64 v.epoch), .v (.int .i64 v.height), .v (.int .i64 v.round), .v (.int .i64 v.src)]), (17, .v (.int .i64 (j : Nat)))],
    [(1, .var q (.node [.v (.int .i64 v.kind), .v (.int .i64 v.epoch), .v (.int .i64 v.height), .v (.int .i64 v.round), dv v.dg, .v (.int .i64 v.src), v.sig.avS]))], q + 1⟩) [] _ (Weak.re (by simp)) rfl ?_ ?_
  · intro j x q hj hx
    have hxl : x.length = 8 * j := by
      rw [hx, nums_length, List.length_take]
      simp
      omega
    rcases (show j = 0 ∨ j = 1 ∨ j = 2 ∨ j = 3 ∨ j = 4 by omega) with rfl | rfl | rfl | rfl | rfl
    · have m1 := rfnum_meets (G := G) v.kind
      have l1 : (be8 v.kind).length = 8 := by simp
      have f1 : fitsS (x.length + 8) := fitS (by omega)
      have hw : IntKind.i64.wrap 1 = 1 := w64_id (by omega)
      have hx2 : x ++ be8 v.kind = nums (List.take (0 + 1) [v.kind, v.epoch, v.height, v.round, v.src]) := by rw [hx]; simp [nums]
      generalize be8 v.kind = y at *
      simp
      refine call_intro m1 ?_ ?_
      · simp
      simp [f1, l1]
      exact ⟨x ++ y, _, Weak.re (by simp [hw]), hx2⟩
    · have m1 := rfnum_meets (G := G) v.epoch
      have l1 : (be8 v.epoch).length = 8 := by simp
      have f1 : fitsS (x.length + 8) := fitS (by omega)
      have hw : IntKind.i64.wrap 2 = 2 := w64_id (by omega)
      have hx2 : x ++ be8 v.epoch = nums (List.take (1 + 1) [v.kind, v.epoch, v.height, v.round, v.src]) := by rw [hx]; simp [nums]
      generalize be8 v.epoch = y at *
      simp
      refine call_intro m1 ?_ ?_
      · simp
      simp [f1, l1]
      exact ⟨x ++ y, _, Weak.re (by simp [hw]), hx2⟩
    · have m1 := rfnum_meets (G := G) v.height
      have l1 : (be8 v.height).length = 8 := by simp
      have f1 : fitsS (x.length + 8) := fitS (by omega)
      have hw : IntKind.i64.wrap 3 = 3 := w64_id (by omega)
      have hx2 : x ++ be8 v.height = nums (List.take (2 + 1) [v.kind, v.epoch, v.height, v.round, v.src]) := by rw [hx]; simp [nums]
      generalize be8 v.height = y at *
      simp
      refine call_intro m1 ?_ ?_
      · simp
      simp [f1, l1]
      exact ⟨x ++ y, _, Weak.re (by simp [hw]), hx2⟩
    · have m1 := rfnum_meets (G := G) v.round
      have l1 : (be8 v.round).length = 8 := by simp
      have f1 : fitsS (x.length + 8) := fitS (by omega)
      have hw : IntKind.i64.wrap 4 = 4 := w64_id (by omega)
      have hx2 : x ++ be8 v.round = nums (List.take (3 + 1) [v.kind, v.epoch, v.height, v.round, v.src]) := by rw [hx]; simp [nums]
      generalize be8 v.round = y at *
      simp
      refine call_intro m1 ?_ ?_
      · simp
      simp [f1, l1]
      exact ⟨x ++ y, _, Weak.re (by simp [hw]), hx2⟩
    · have m1 := rfnum_meets (G := G) v.src
      have l1 : (be8 v.src).length = 8 := by simp
      have f1 : fitsS (x.length + 8) := fitS (by omega)
      have hw : IntKind.i64.wrap 5 = 5 := w64_id (by omega)
      have hx2 : x ++ be8 v.src = nums (List.take (4 + 1) [v.kind, v.epoch, v.height, v.round, v.src]) := by rw [hx]; simp [nums]
      generalize be8 v.src = y at *
      simp
      refine call_intro m1 ?_ ?_
      · simp
      simp [f1, l1]
      exact ⟨x ++ y, _, Weak.re (by simp [hw]), hx2⟩
  · intro x q hx
    have hxl : x.length = 40 := by rw [hx]; simp [nums_length]
    have f1 : fitsS (x.length + 32) := fitS (by omega)
    have hh : x ++ v.dg.bs = v.head := by rw [hx]; simp [Vote.head]
    simp
    refine call_intro m2 ?_ ?_
    · simp
    simp [f1, hh]
    refine post_end (.inr rfl) ?_
    simp
attribute [local irreducible] Vote.signs
end Go.Proofs.YtjlmpdbagmdbiaaDoor.WL

end
section
/-
  CHAPTER 14: whether a word is right.
-/
namespace Go.Proofs.YtjlmpdbagmdbiaaDoor.WL
open Go
set_option maxHeartbeats 8000000
variable {G : Nat → Option AV}
attribute [local irreducible] sha comp hb checkK idxOf Vote.signs Vote.good rightV Conf.good Blk.good Blk.dg quorum

instance : Inhabited Vote := ⟨Vote.zero⟩
def lastSrc (vs : List Vote) : Nat → Int
  | 0 => 0
  | j + 1 => (vs[j]!).src
def voteOk (c : Conf) (b : Blk) (x : Cert) (j : Nat) : Bool :=
  decide (lastSrc x.votes j < (x.votes[j]!).src) && decide ((x.votes[j]!).kind = 2) && decide ((x.votes[j]!).height = b.height) && decide ((x.votes[j]!).round = x.round) && decide ((x.votes[j]!).dg = b.dg) && rightV c (x.votes[j]!)
def checkC (c : Conf) (b : Blk) (x : Cert) : Bool :=
  c.good && b.good && decide (b.epoch = c.epoch) && decide (quorum c.ms.length ≤ x.votes.length) && (List.range x.votes.length).all (voteOk c b x)
theorem checkC_no {c : Conf} {b : Blk} {x : Cert} {j : Nat} (h : j < x.votes.length) (hb : voteOk c b x j = false) : checkC c b x = false := by
  have : (List.range x.votes.length).all (voteOk c b x) = false := by
    rw [List.all_eq_false]
    exact ⟨j, List.mem_range.2 h, by simp [hb]⟩
  simp [checkC, this]
theorem checkC_yes {c : Conf} {b : Blk} {x : Cert} (h1 : c.good = true) (h2 : b.good = true) (h3 : b.epoch = c.epoch) (h4 : quorum c.ms.length ≤ x.votes.length) (h : ∀ j, j < x.votes.length → voteOk c b x j = true) : checkC c b x = true := by
  have : (List.range x.votes.length).all (voteOk c b x) = true := List.all_eq_true.2 fun j hj => h j (List.mem_range.1 hj)
  simp [checkC, this, h1, h2, h3, h4]
theorem Conf.good_ne {c : Conf} (h : c.good = true) : c.ms ≠ [] := by
  intro e
  simp [Conf.good, e] at h

theorem ccheck_meets (c : Conf) (b : Blk) (x : Cert) (hn : c.ms.length ≤ 1000000) (hm : ∀ m ∈ c.ms, W64 m.height) (hv : ∀ v ∈ x.votes, W64 v.sig.leaf) (hl : x.votes.length ≤ 1000000) (hb : b.bytes.length ≤ 50000000) (hq : b.qs.length ≤ 1000000) :
    Meets Tryd.prog Gt fn_cert_Check [c.av, b.avS, x.av] [] true (.v (.bool (checkC c b x))) [] := by
  refine meets_of_go mix k_cert_Check ⟨by simp, by simp, by simp⟩ ?_
  have m1 := cgood_meets (G := Gt) c
  have m2 := bgood_meets (G := Gt) b
  have m3 := cquorum_meets (G := Gt) c hn
  have m4 := bdigest_meets b hb hq
  cases h1 : c.good
  · rw [h1] at m1
    simp [Conf.av, Blk.avS, Cert.av, dv]
    refine call_intro m1 ?_ ?_
    · simp [Conf.av, dv]
    simp
    refine post_end (.inr rfl) ?_
    simp [checkC, h1]
  cases h2 : b.good
  · rw [h1] at m1
    rw [h2] at m2
    simp [Conf.av, Blk.avS, Cert.av, dv]
    refine call_intro m1 ?_ ?_
    · simp [Conf.av, dv]
    simp
    refine call_intro m2 ?_ ?_
    · simp [Blk.avS, dv]
    simp
    refine post_end (.inr rfl) ?_
    simp [checkC, h2]
  by_cases h3 : b.epoch = c.epoch
  case neg =>
    rw [h1] at m1
    rw [h2] at m2
    simp [Conf.av, Blk.avS, Cert.av, dv]
    refine call_intro m1 ?_ ?_
    · simp [Conf.av, dv]
    simp
    refine call_intro m2 ?_ ?_
    · simp [Blk.avS, dv]
    simp [h3]
    refine post_end (.inr rfl) ?_
    simp [checkC, h3]
  have h3' := eq_true h3
  by_cases h4 : quorum c.ms.length ≤ x.votes.length
  case neg =>
    have h4' : x.votes.length < quorum c.ms.length := by omega
    rw [h1] at m1
    rw [h2] at m2
    simp [Conf.av, Blk.avS, Cert.av, dv]
    refine call_intro m1 ?_ ?_
    · simp [Conf.av, dv]
    simp
    refine call_intro m2 ?_ ?_
    · simp [Blk.avS, dv]
    simp [h3']
    refine call_intro m3 ?_ ?_
    · simp [Conf.av, dv]
    simp [h4']
    refine post_end (.inr rfl) ?_
    simp [checkC, h4]
  have hno := @checkC_no c b x
  have hyes := checkC_yes h1 h2 h3 h4
  have hvo : ∀ j, voteOk c b x j = (decide (lastSrc x.votes j < (x.votes[j]!).src) && decide ((x.votes[j]!).kind = 2) && decide ((x.votes[j]!).height = b.height) && decide ((x.votes[j]!).round = x.round) && decide ((x.votes[j]!).dg = b.dg) && rightV c (x.votes[j]!)) := fun _ => rfl
  have hms := Conf.good_ne h1
  have m5 : ∀ v ∈ x.votes, Meets Tryd.prog Gt fn_vote_Right [c.av, v.av] [] true (.v (.bool (rightV c v))) [] := fun v hv' => vright_meets c v hms hm (hv v hv')
  have h4' : ¬ x.votes.length < quorum c.ms.length := by omega
  rw [h1] at m1
  rw [h2] at m2
  generalize checkC c b x = res at *
  obtain ⟨ok, hok⟩ : ∃ ok : Nat → Bool, ok = voteOk c b x := ⟨_, rfl⟩
  rw [← hok] at hno hyes hvo
  generalize b.dg = d at *
  generalize quorum c.ms.length = qn at *
  obtain ⟨R, hR⟩ : ∃ R : Vote → Bool, R = rightV c := ⟨_, rfl⟩
  rw [← hR] at hvo m5
  simp [Conf.av, Blk.avS, Cert.av, dv]
  refine call_intro m1 ?_ ?_
  · simp [Conf.av, dv]
  simp
  refine call_intro m2 ?_ ?_
  · simp [Blk.avS, dv]
  simp [h3']
  refine call_intro m3 ?_ ?_
  · simp [Conf.av, dv]
  simp [h4', h4]
  refine call_intro m4 ?_ ?_
  · simp [Blk.avS, dv]
  simp [dv]
  refine go_up x.votes.length (fun j (_ : Unit) => ∀ i, i < j → ok i = true) (fun j (_ : Unit) q => ⟨[(3, .ptr 3 q 0), (4, .ptr 4 q 0), (5, .ptr 5 q 0), (7, .ptr 7 q 0), (8, .v (.int .i64 (lastSrc x.votes j))), (37, .sl 41 (Votes x.votes)), (38, .v (.int .i64 (x.votes.length : Nat))), (39, .v (.int .i64 (j : Nat)))],
    [(3, .var q (.node [.v (.int .i64 c.epoch), .sl 34 (Mems c.ms)])), (4, .var q (.node [.v (.int .i64 b.epoch), .v (.int .i64 b.height), .arr 1 (B b.prev.bs), .arr 1 (B b.state.bs), .arr 1 (B b.next.bs), .sl 42 (Reqs b.qs)])), (5, .var q (.node [.v (.int .i64 x.round), .sl 41 (Votes x.votes)])), (7, .var q (.arr 1 (B d.bs)))], q + 1⟩) () _ (Weak.re (by simp [lastSrc])) (by intro i h; omega) ?_ ?_
  · intro j _ q hj hx
    have hw : IntKind.i64.wrap ((j : Int) + 1) = ((j + 1 : Nat) : Int) := w64_succ (by omega)
    obtain ⟨v, hv'⟩ : ∃ v, x.votes[j] = v := ⟨_, rfl⟩
    have hvb : x.votes[j]! = v := by simp [hj, hv']
    have e := hvo j
    rw [hvb] at e
    have m6 := m5 v (by rw [← hv']; exact List.getElem_mem hj)
    have hf : ok j = false → res = false := hno hj
    have hls : lastSrc x.votes (j+1) = v.src := by simp [lastSrc, hvb]
    generalize lastSrc x.votes j = ls at *
    have hnext : ok j = true → ∀ i, i < j + 1 → ok i = true := by
      intro h i hi
      rcases (show i < j ∨ i = j by omega) with h1 | rfl
      · exact hx i h1
      · exact h
    by_cases c1 : v.src ≤ ls
    · have hr := hf (by rw [e]; simp; omega)
      simp [hj, hv', Vote.av, dv, c1]
      refine post_end (.inr rfl) ?_
      simp [hr]
    by_cases c2 : v.kind = 2
    case neg =>
      have hr := hf (by rw [e]; simp [c2])
      simp [hj, hv', Vote.av, dv, c1, c2]
      refine post_end (.inr rfl) ?_
      simp [hr]
    by_cases c3 : v.height = b.height
    case neg =>
      have hr := hf (by rw [e]; simp [c3])
      simp [hj, hv', Vote.av, dv, c1, eq_true c2, c3]
      refine post_end (.inr rfl) ?_
      simp [hr]
    by_cases c4 : v.round = x.round
    case neg =>
      have hr := hf (by rw [e]; simp [c4])
      simp [hj, hv', Vote.av, dv, c1, eq_true c2, eq_true c3, c4]
      refine post_end (.inr rfl) ?_
      simp [hr]
    by_cases c5 : v.dg = d
    case neg =>
      have hr := hf (by rw [e]; simp [c5])
      simp [hj, hv', Vote.av, dv, c1, eq_true c2, eq_true c3, eq_true c4, c5]
      refine post_end (.inr rfl) ?_
      simp [hr]
    simp [hj, hv', Vote.av, dv, c1, eq_true c2, eq_true c3, eq_true c4, eq_true c5]
    refine call_intro m6 ?_ ?_
    · simp [Conf.av, Vote.av, dv]
    simp
    cases hb' : R v
    · have hr := hf (by rw [e]; simp [hb'])
      simp
      refine post_end (.inr rfl) ?_
      simp [hr]
    · have hok' : ok j = true := by
        rw [e, hb']
        simp [c2, c3, c4, c5]
        omega
      simp [hw]
      exact ⟨(), _, Weak.re (by simp [hls]), hnext hok'⟩
  · intro _ q hx
    have hr := hyes hx
    simp
    refine post_end (.inr rfl) ?_
    simp [hr]
end Go.Proofs.YtjlmpdbagmdbiaaDoor.WL

end
section
/-
  CHAPTER 14: cert.Make.
-/
namespace Go.Proofs.YtjlmpdbagmdbiaaDoor.WL
open Go
set_option maxHeartbeats 8000000
variable {G : Nat → Option AV}
attribute [local irreducible] sha comp hb checkK quorum

theorem cmake_meets (c : Conf) (vs : List Vote) (hn : c.ms.length ≤ 1000000) (h : quorum c.ms.length ≤ vs.length) (h0 : 0 < vs.length) (hl : vs.length ≤ 1000000) : Meets Tryd.prog G fn_cert_Make [c.av, .sl 41 (Votes vs)] [] false (.tup [(Cert.mk (vs[0]).round (vs.take (quorum c.ms.length))).av, .v (.bool true)]) [] := by
  refine meets_of_go mix k_cert_Make ⟨by simp, by simp [Cert.av], by simp⟩ ?_
  have m1 := cquorum_meets (G := G) c hn
  generalize quorum c.ms.length = q at *
  have h' : ¬ vs.length < q := by omega
  have h2 : ¬ (vs.length : Int) < (q : Nat) := by omega
  have hm : min q vs.length = q := by omega
  have hf : fitsB q 152 := fits (by omega) (by omega)
  have ht : List.take q (Votes (List.take q vs)) = Votes (List.take q vs) := List.take_of_length_le (by simp; omega)
  simp [Conf.av]
  refine call_intro m1 ?_ ?_
  · simp [Conf.av]
  simp [h, h', h2, h0, Vote.av, hm, hf]
  refine post_end (.inr rfl) ?_
  simp [hm, h, Cert.av, ht]
end Go.Proofs.YtjlmpdbagmdbiaaDoor.WL

end
section
/-
  CHAPTER 05: walks of laws.
-/
namespace Go.Proofs.YtjlmpdbagmdbiaaDoor.WL
open Go
set_option maxHeartbeats 4000000
attribute [local irreducible] comp hb sha leafD pairD secD shutD wholeD pubD ofD

def Dg.one (b : UInt8) : Dg := ⟨b :: zeros 31, by simp⟩
theorem one_set (b : UInt8) : AV.arr 1 ((B (zeros 32)).set 0 (bv b)) = dv (Dg.one b) := (rfl)
theorem bv1 : AV.v (.int .u8 1) = bv 1 := (rfl)
attribute [local irreducible] Dg.one

def Sig.greatF (s : Sig) : Bool := decide (200 < s.op.length) || decide (200 < s.sh.length) || decide (200 < s.path.length)
end Go.Proofs.YtjlmpdbagmdbiaaDoor.WL

end
section
/-
  CHAPTER 14: the laws' first question, and how great an input is.
-/
namespace Go.Proofs.YtjlmpdbagmdbiaaDoor.WL
open Go
set_option maxHeartbeats 8000000
variable {G : Nat → Option AV}

noncomputable def c_alive14 : CCode :=
  .seq (.region c_l14_alive_r0 none []) (.seq (.region c_l14_alive_r1 none [1, 2]) (.seq (.seq (.region c_l14_alive_r2 none [1, 14]) (.cond (.t 14) (.seq (.region c_l14_alive_r3 none [0]) (.ret)) (.skip))) (.seq (.region c_l14_alive_r4 none [1, 3]) (.seq (.region c_l14_alive_r5 none [1, 3, 4]) (.seq (.region c_l14_alive_r6 none [1, 3, 4, 5]) (.seq (.region c_l14_alive_r7 none [3, 4, 5]) (.ghost (.seq (.region c_l14_alive_r8 none [3, 4, 6, 7]) (.seq (.region c_l14_alive_r9 none [0]) (.ret))))))))))
theorem k_alive14 : chkFn Tryd.prog fn_l14_alive c_alive14 R_l14_alive 0 = true := by kernel_rfl

theorem ksign_frz (seed : Dg) (h : Int) (ls : List Dg) (n : Nat) (d : Dg) (hn : n < ls.length) (hl : ls.length ≤ 1000000) (N : Nat) (hN : N = 32) :
    Meets Tryd.prog Gt fn_keys_Tree_Sign [.ptr 1000 0 0, .v (.int .i64 (n : Nat)), dv d] (trM 0 seed h ls) false (.tup [(signK seed ls n d N).avS, .v (.int .i64 0)]) (trM 1 seed h ls) := by
  refine (ksign_meets seed h ls n d hn hl N hN).freeze ⟨by simp [trM], by simp [trM], by simp [trM]⟩ ?_
  generalize signK seed ls n d N = s at *
  simp [trM, Sig.avR, Sig.avS, Sig.rows]
attribute [local irreducible] comp hb sha leafD pairD secD shutD wholeD pubD ofD Dg.one

def Blk.h1 : Blk := ⟨0, 1, Dg.zero, Dg.zero, Dg.zero, []⟩
def mem14 (R : Dg) : Mem := ⟨1, R, 0⟩
def conf14 (R : Dg) : Conf := ⟨0, [mem14 R]⟩
def vote14 (d : Dg) (s : Sig) : Vote := ⟨2, 0, 1, 0, d, 1, s⟩
def cert14 (d : Dg) (s : Sig) : Cert := ⟨0, [vote14 d s]⟩
theorem check14 (R : Dg) (s : Sig) (h : checkK R 0 (vote14 Blk.h1.dg Sig.zero).signs s = true) : checkC (conf14 R) Blk.h1 (cert14 Blk.h1.dg s) = true := by
  have hid : idxOf (conf14 R).ms 1 = ((0 : Nat) : Int) := idxOf_hit (k := 0) (by simp [conf14]) (by simp [conf14, mem14]) (by intro j _ hj; omega)
  have hr : rightV (conf14 R) (vote14 Blk.h1.dg s) = true := by
    rw [rightV_some (k := 0) (by simp [conf14]) hid]
    have hs : (vote14 Blk.h1.dg s).signs = (vote14 Blk.h1.dg Sig.zero).signs := rfl
    have hg : (vote14 Blk.h1.dg s).good = true := by simp [vote14, Vote.good]
    rw [hs, hg]
    show (true && decide ((0 : Int) = 0) && checkK R 0 (vote14 Blk.h1.dg Sig.zero).signs s) = true
    rw [h]
    rfl
  refine checkC_yes ?_ ?_ rfl ?_ ?_
  · simp [conf14, mem14, Conf.good, memOk, Mem.good]
  · simp [Blk.h1, Blk.good]
  · simp [conf14, cert14, quorum, faults]
  · intro j hj
    have : j = 0 := by simpa [cert14] using hj
    subst this
    simp [voteOk, cert14, lastSrc, hr]
    simp [vote14, Blk.h1]
theorem alive14_meets : Meets Tryd.prog Gt fn_l14_alive [] [] true (.v (.bool true)) [] := by
  refine meets_of_awp mix k_alive14 ⟨by simp, by simp, by simp⟩ (awp_go ?_)
  have o1 := one_set 1
  generalize Dg.one 1 = D1 at *
  have m1 := knew_meets D1 0 (by omega) 32 rfl
  have hl := leavesD_length D1 32 (2 ^ 0)
  have hbl : Blk.h1.bytes.length = 120 := by rw [Blk.bytes_len]; rfl
  have m3 := bdigest_meets Blk.h1 (by omega) (by simp [Blk.h1])
  have hc := sign_checks D1 0 0 (vote14 Blk.h1.dg Sig.zero).signs (by omega) (by decide)
  generalize leavesD D1 32 (2 ^ 0) = l at *
  have hl1 : l.length = 1 := hl
  have m2 := kkey_meets D1 ((0 : Nat) : Int) l (by omega)
  have m5 := ksign_frz D1 ((0 : Nat) : Int) l 0 (vote14 Blk.h1.dg Sig.zero).signs (by omega) (by omega) 32 rfl
  have hS0 : W64 (signK D1 l 0 (vote14 Blk.h1.dg Sig.zero).signs 32).leaf := by simp [signK, W64]
  generalize signK D1 l 0 (vote14 Blk.h1.dg Sig.zero).signs 32 = S at *
  generalize rootD l = R at *
  have hk := check14 R S hc
  have m4 := vsigns_meets (vote14 Blk.h1.dg Sig.zero)
  have hq : quorum (conf14 R).ms.length = 1 := by simp [conf14, quorum, faults]
  have m6 := cmake_meets (G := Gt) (conf14 R) [vote14 Blk.h1.dg S] (by simp [conf14]) (by rw [hq]; simp) (by simp) (by simp)
  rw [hq] at m6
  have m7 := ccheck_meets (conf14 R) Blk.h1 (cert14 Blk.h1.dg S) (by simp [conf14]) (by simp [conf14, mem14, W64]) (by simp [cert14, vote14]; exact hS0) (by simp [cert14]) (by omega) (by simp [Blk.h1])
  rw [hk] at m7
  clear hk hc hbl hq
  generalize (vote14 Blk.h1.dg Sig.zero).signs = sg at *
  generalize Blk.h1.dg = bd at *
  simp only [Int.natCast_zero] at m1 m2 m5
  simp [c_alive14, bv1, o1]
  refine call_intro m1 ?_ ?_
  · simp [trM1]
  simp [trM1, hl1, o1]
  refine call_intro m2 ?_ ?_
  · simp [trM, hl1]
  simp [trM, hl1]
  refine call_intro m3 ?_ ?_
  · simp [Blk.h1, Blk.avS, dv]
  simp [Blk.h1, Blk.avS, dv]
  refine call_intro m4 ?_ ?_
  · simp [vote14, Vote.av, Sig.zero, Sig.avS, dv]
  simp [dv]
  refine call_intro m5 ?_ ?_
  · simp [trM, hl1, dv]
  simp [trM, hl1, dv]
  refine go_ghost ⟨[(3, .ptr 3 36 0), (4, .ptr 4 36 0), (5, .ptr 5 36 0)], [(3, .var 36 (conf14 R).av), (4, .var 36 Blk.h1.avS), (5, .var 36 (vote14 bd S).av)], 37⟩ (Weak.re (by simp [conf14, mem14, Conf.av, Mems, Mem.av, Blk.h1, Blk.avS, vote14, Vote.av, dv])) ?_
  have e6 : (Cert.mk [vote14 bd S][0].round (List.take 1 [vote14 bd S])) = cert14 bd S := rfl
  rw [e6] at m6
  have hv1 : [(vote14 bd S).av] = Votes [vote14 bd S] := rfl
  simp
  refine call_intro m6 ?_ ?_
  · simp [hv1]
  simp [hv1, Cert.av]
  refine call_intro m7 ?_ ?_
  · simp [Cert.av]
  simp
  refine post_end (.inr rfl) ?_
  simp
end Go.Proofs.YtjlmpdbagmdbiaaDoor.WL

end
section
/-
  CHAPTER 12: walks of laws.
-/
namespace Go.Proofs.YtjlmpdbagmdbiaaDoor.WL
open Go
set_option maxHeartbeats 4000000
variable {G : Nat → Option AV}

def Blk.one : Blk := ⟨0, 1, Dg.zero, Dg.zero, Dg.zero, []⟩
end Go.Proofs.YtjlmpdbagmdbiaaDoor.WL

end
section
/-
  CHAPTER 12: walks of laws: reading.
-/
namespace Go.Proofs.YtjlmpdbagmdbiaaDoor.WL
open Go
set_option maxHeartbeats 4000000
variable {G : Nat → Option AV}

theorem great_no {b : Blk} {m : Nat} (h : b.great m = false) : b.qs.length ≤ 40 ∧ (reqsB b.qs).length ≤ m := by
  simp only [Blk.great, Bool.or_eq_false_iff, decide_eq_false_iff_not] at h
  omega
end Go.Proofs.YtjlmpdbagmdbiaaDoor.WL

end
section
/-
  CHAPTER 14: walks of laws.
-/
namespace Go.Proofs.YtjlmpdbagmdbiaaDoor.WL
open Go
set_option maxHeartbeats 8000000
variable {G : Nat → Option AV}
attribute [local irreducible] sha comp hb checkK idxOf Vote.signs Vote.good rightV Conf.good Blk.good Blk.dg quorum checkC

def greatC (c : Conf) (b : Blk) (x : Cert) : Bool := decide (20 < c.ms.length) || b.great 4096 || decide (12 < x.votes.length) || x.votes.any fun v => v.sig.greatF
theorem great14_meets (c : Conf) (b : Blk) (x : Cert) (hf : ∀ q ∈ b.qs, q.key.length ≤ reachBytes ∧ q.val.length ≤ reachBytes ∧ q.old.length ≤ reachBytes) :
    Meets Tryd.prog G fn_l14_great [c.av, b.avS, x.av] [] true (.v (.bool (greatC c b x))) [] := by
  refine meets_of_go mix k_l14_great ⟨by simp, by simp, by simp⟩ ?_
  have m1 := bgreat_meets (G := G) b 4096 (by omega) hf
  simp only [Int.cast_ofNat_Int] at m1
  unfold greatC
  by_cases c1 : (20 : Int) < (c.ms.length : Nat)
  · have d1 : 20 < c.ms.length := by omega
    simp [Conf.av, Blk.avS, Cert.av, c1]
    refine post_end (.inr rfl) ?_
    simp [d1]
  have d1 : ¬ 20 < c.ms.length := by omega
  cases g : b.great 4096
  case true =>
    rw [g] at m1
    simp [Conf.av, Blk.avS, Cert.av, c1]
    refine call_intro m1 ?_ ?_
    · simp [Blk.avS]
    simp
    refine post_end (.inr rfl) ?_
    simp
  rw [g] at m1
  by_cases c2 : (12 : Int) < (x.votes.length : Nat)
  · have d2 : 12 < x.votes.length := by omega
    simp [Conf.av, Blk.avS, Cert.av, c1]
    refine call_intro m1 ?_ ?_
    · simp [Blk.avS]
    simp [c2]
    refine post_end (.inr rfl) ?_
    simp [d2]
  have d2 : ¬ 12 < x.votes.length := by omega
  have hl : x.votes.length ≤ 12 := by omega
  have hres : (decide (20 < c.ms.length) || false || decide (12 < x.votes.length) || x.votes.any fun v => v.sig.greatF) = x.votes.any fun v => v.sig.greatF := by simp [d1, d2]
  rw [hres]
  generalize hvs : x.votes = vs at *
  simp [Conf.av, Blk.avS, Cert.av, c1, hvs]
  refine call_intro m1 ?_ ?_
  · simp [Blk.avS]
  simp [c2]
  refine go_up vs.length (fun j (_ : Unit) => ∀ i (h : i < vs.length), i < j → vs[i].sig.greatF = false) (fun j (_ : Unit) q => ⟨[(24, .sl 41 (Votes vs)), (25, .v (.int .i64 (vs.length : Nat))), (26, .v (.int .i64 (j : Nat)))], [], q + 1⟩) () _ (Weak.re (by simp)) (by intro i _ h; omega) ?_ ?_
  · intro j _ q hj hx
    have hw : IntKind.i64.wrap ((j : Int) + 1) = ((j + 1 : Nat) : Int) := w64_succ (by omega)
    obtain ⟨v, hv⟩ : ∃ v, vs[j] = v := ⟨_, rfl⟩
    have hyes : v.sig.greatF = true → (vs.any fun v => v.sig.greatF) = true := fun h => List.any_eq_true.2 ⟨v, by rw [← hv]; exact List.getElem_mem hj, h⟩
    by_cases e1 : (200 : Int) < (v.sig.op.length : Nat)
    · have hr := hyes (by simp [Sig.greatF, show 200 < v.sig.op.length by omega])
      simp [hj, hv, Vote.av, Sig.avS, e1]
      refine post_end (.inr rfl) ?_
      simp [hr]
    by_cases e2 : (200 : Int) < (v.sig.sh.length : Nat)
    · have hr := hyes (by simp [Sig.greatF, show 200 < v.sig.sh.length by omega])
      simp [hj, hv, Vote.av, Sig.avS, e1, e2]
      refine post_end (.inr rfl) ?_
      simp [hr]
    by_cases e3 : (200 : Int) < (v.sig.path.length : Nat)
    · have hr := hyes (by simp [Sig.greatF, show 200 < v.sig.path.length by omega])
      simp [hj, hv, Vote.av, Sig.avS, e1, e2, e3]
      refine post_end (.inr rfl) ?_
      simp [hr]
    have hno : v.sig.greatF = false := by simp [Sig.greatF]; omega
    simp [hj, hv, Vote.av, Sig.avS, e1, e2, e3, hw]
    refine ⟨(), _, Weak.re (by simp), ?_⟩
    intro i hi hij
    rcases (show i < j ∨ i = j by omega) with h1 | rfl
    · exact hx i hi h1
    · rw [hv]; exact hno
  · intro _ q hx
    have hr : (vs.any fun v => v.sig.greatF) = false := by
      rw [List.any_eq_false]
      intro v hv
      obtain ⟨i, hi, rfl⟩ := List.getElem_of_mem hv
      simp [hx i hi hi]
    simp
    refine post_end (.inr rfl) ?_
    simp [hr]
theorem greatC_no {c : Conf} {b : Blk} {x : Cert} (h : greatC c b x = false) : c.ms.length ≤ 20 ∧ x.votes.length ≤ 12 ∧ b.bytes.length ≤ 5000 ∧ b.qs.length ≤ 40 ∧ ∀ v ∈ x.votes, v.sig.greatF = false := by
  simp only [greatC, Bool.or_eq_false_iff, decide_eq_false_iff_not, List.any_eq_false] at h
  have h2 := great_no h.1.1.2
  rw [Blk.bytes_len]
  refine ⟨by omega, by omega, by omega, by omega, fun v hv => by simpa using h.2 v hv⟩
end Go.Proofs.YtjlmpdbagmdbiaaDoor.WL

end
section
/-
  CHAPTER 14: the first votes of a word that is right are right.
-/
namespace Go.Proofs.YtjlmpdbagmdbiaaDoor.WL
open Go

theorem checkC_parts {c : Conf} {b : Blk} {x : Cert} (h : checkC c b x = true) : c.good = true ∧ b.good = true ∧ b.epoch = c.epoch ∧ quorum c.ms.length ≤ x.votes.length ∧ ∀ j, j < x.votes.length → voteOk c b x j = true := by
  unfold checkC at h
  simp only [Bool.and_eq_true, decide_eq_true_eq, List.all_eq_true, List.mem_range] at h
  exact ⟨h.1.1.1.1, h.1.1.1.2, h.1.1.2, h.1.2, h.2⟩
theorem voteOk_parts {c : Conf} {b : Blk} {x : Cert} {j : Nat} (h : voteOk c b x j = true) : lastSrc x.votes j < (x.votes[j]!).src ∧ (x.votes[j]!).kind = 2 ∧ (x.votes[j]!).height = b.height ∧ (x.votes[j]!).round = x.round ∧ (x.votes[j]!).dg = b.dg ∧ rightV c (x.votes[j]!) = true := by
  unfold voteOk at h
  simp only [Bool.and_eq_true, decide_eq_true_eq] at h
  exact ⟨h.1.1.1.1.1, h.1.1.1.1.2, h.1.1.1.2, h.1.1.2, h.1.2, h.2⟩
theorem quorum_pos (n : Nat) : 0 < quorum n := by unfold quorum; omega
end Go.Proofs.YtjlmpdbagmdbiaaDoor.WL

end
section
/-
  CHAPTER 14, 15: a word that is right, a link that leads, are read as they were written; without any program.
-/
namespace Go.Proofs.YtjlmpdbagmdbiaaDoor.WL
open Go
attribute [local irreducible] sha comp hb leafD pairD

theorem plen_le : ∀ (k at_ count : Nat), count ≤ 2 ^ k → plen at_ count ≤ k
  | 0, at_, count, h => by rw [plen_end _ _ (by simpa using h)]; exact Nat.le_refl _
  | k + 1, at_, count, h => by
    by_cases h1 : 1 < count
    · rw [plen_up _ _ h1]
      have := plen_le k (at_ / 2) ((count + 1) / 2) (by rw [Nat.pow_succ] at h; omega)
      split <;> omega
    · rw [plen_end _ _ (by omega)]; omega
theorem checkK_fits {root : Dg} {h : Int} {d : Dg} {s : Sig} (hl : W64 s.leaf) (hk : checkK root h d s = true) : s.Fits := by
  unfold checkK at hk
  simp only [Bool.and_eq_true, decide_eq_true_eq] at hk
  obtain ⟨⟨h1, h2⟩, ⟨h3, h4⟩, ⟨h5, h6⟩, h7⟩ := hk
  have h8 := checkD_len (2 ^ h.toNat) _ _ _ _ _ (Nat.le_refl _) h7
  have h9 := plen_le h.toNat s.leaf.toNat (2 ^ h.toNat) (Nat.le_refl _)
  exact ⟨hl, h1, h2, by omega⟩
theorem rightV_fits {c : Conf} {v : Vote} (hl : W64 v.sig.leaf) (h : rightV c v = true) : v.good = true ∧ v.sig.Fits := by
  unfold rightV at h
  simp only [Bool.and_eq_true, decide_eq_true_eq] at h
  exact ⟨h.1.1.2, checkK_fits hl h.2⟩
theorem voteF_of {v : Vote} (h1 : v.good = true) (h2 : v.sig.Fits) : voteF.good v := by
  simp only [Vote.good, Bool.and_eq_true, decide_eq_true_eq] at h1
  show (W64 v.kind ∧ 1 ≤ v.kind ∧ v.kind ≤ 2) ∧ (W64 v.epoch ∧ 0 ≤ v.epoch ∧ v.epoch ≤ 1073741824) ∧ (W64 v.height ∧ 1 ≤ v.height ∧ v.height ≤ 1024) ∧ (W64 v.round ∧ 0 ≤ v.round ∧ v.round ≤ 1024) ∧ (W64 v.src ∧ 1 ≤ v.src ∧ v.src ≤ 63) ∧ True ∧ v.sig.Fits
  unfold W64
  refine ⟨⟨by omega, by omega, by omega⟩, ⟨by omega, by omega, by omega⟩, ⟨by omega, by omega, by omega⟩, ⟨by omega, by omega, by omega⟩, ⟨by omega, by omega, by omega⟩, trivial, h2⟩
theorem checkC_votes {c : Conf} {b : Blk} {x : Cert} (h : checkC c b x = true) (hl : ∀ v ∈ x.votes, W64 v.sig.leaf) : ∀ v ∈ x.votes, voteF.good v ∧ v.round = x.round := by
  intro v hv
  obtain ⟨j, hj, rfl⟩ := List.getElem_of_mem hv
  have e1 : x.votes[j]! = x.votes[j] := by simp [hj]
  have h1 := voteOk_parts ((checkC_parts h).2.2.2.2 j hj)
  rw [e1] at h1
  obtain ⟨h2, h3⟩ := rightV_fits (hl _ hv) h1.2.2.2.2.2
  exact ⟨voteF_of h2 h3, h1.2.2.2.1⟩
theorem certF_of {c : Conf} {b : Blk} {x : Cert} (h : checkC c b x = true) (hl : ∀ v ∈ x.votes, W64 v.sig.leaf) (hn : x.votes.length ≤ 10) : certF.good x := by
  have h1 := checkC_votes h hl
  have h0 : 0 < x.votes.length := by
    have := (checkC_parts h).2.2.2.1
    have := quorum_pos c.ms.length
    omega
  have hr : 0 ≤ x.round ∧ x.round ≤ 1024 := by
    obtain ⟨h2, h3⟩ := h1 _ (List.getElem_mem h0)
    rw [← h3]
    exact h2.2.2.2.1.2
  show (W64 x.round ∧ 0 ≤ x.round ∧ x.round ≤ 1024) ∧ (W64 (x.votes.length : Int) ∧ 1 ≤ (x.votes.length : Int) ∧ (x.votes.length : Int) ≤ 10) ∧ (x.votes.length = (x.votes.length : Int).toNat ∧ repG (fun _ => voteF) [] x.votes)
  unfold W64
  refine ⟨⟨by omega, hr.1, hr.2⟩, ⟨by omega, by omega, by omega⟩, by omega, (repG_const voteF _ _).2 fun v hv => (h1 v hv).1⟩
theorem Sig.ok_of {s : Sig} (h : s.Fits) : s.ok = true := by
  obtain ⟨_, h1, h2, h3⟩ := h
  simp [Sig.ok, h1, h2, h3]
theorem certF_okc {x : Cert} (h : certF.good x) : x.ok = true := by
  have h1 := (repG_const voteF _ _).1 h.2.2.2
  exact List.all_eq_true.2 fun v hv => Sig.ok_of (h1 v hv).2.2.2.2.2.2
/-- A word that is right is read as it was written. -/
theorem cert_back {x : Cert} (h : certF.good x) : certF.rd (Rd.of x.bytes) = x ∧ certF.rd' (Rd.of x.bytes) = ⟨x.bytes, [], false⟩ := by
  have := certF_law.back [] [] x h
  rw [certF_wr, List.append_nil, List.nil_append] at this
  exact this

def Lnk.bytes (l : Lnk) : Bytes := l.blk.bytes ++ (l.cert.bytes ++ l.conf.bytes)
end Go.Proofs.YtjlmpdbagmdbiaaDoor.WL

end
section
/-
  CHAPTER 13: the reference: a vote's bytes.
-/
namespace Go.Proofs.YtjlmpdbagmdbiaaDoor.WL
open Go
set_option maxHeartbeats 8000000
variable {G : Nat → Option AV}

theorem rvbytes_bad (v : Vote) (h : v.sig.ok = false) : Meets Tryd.prog G fn_r13_Bytes [v.av] [] true (.tup [.v (.string (mkS [])), .v (.bool false)]) [] := by
  refine meets_of_go mix k_r13_Bytes ⟨by simp, by simp, by simp⟩ ?_
  have m1 := rkwrite_bad (G := G) v.sig h
  simp [Vote.av]
  refine call_intro m1 ?_ ?_
  · simp
  simp
  refine post_end (.inr rfl) ?_
  simp
theorem rvbytes_meets (v : Vote) (h : v.sig.ok = true) : Meets Tryd.prog G fn_r13_Bytes [v.av] [] true (.tup [.v (.string (mkS (voteF.wr v))), .v (.bool true)]) [] := by
  refine meets_of_go mix k_r13_Bytes ⟨by simp, by simp, by simp⟩ ?_
  have m1 := rkwrite_meets (G := G) v.sig h
  have m2 := rvhead_meets (G := G) v
  have hl := v.head_len
  have hs := v.sig.bytes_len
  have ho : v.sig.op.length = 32 ∧ v.sig.sh.length = 32 ∧ v.sig.path.length ≤ 6 := by simpa [Sig.ok] using h
  have f1 : fitsS (v.head.length + v.sig.bytes.length) := fitS (by omega)
  rw [voteF_wr]
  generalize v.head = x at *
  generalize v.sig.bytes = y at *
  simp [Vote.av]
  refine call_intro m1 ?_ ?_
  · simp
  simp
  refine call_intro m2 ?_ ?_
  · simp [Vote.av]
  simp [f1]
  refine post_end (.inr rfl) ?_
  simp
end Go.Proofs.YtjlmpdbagmdbiaaDoor.WL

end
section
/-
  CHAPTER 14, 15: the reference: bytes of words and links.
-/
namespace Go.Proofs.YtjlmpdbagmdbiaaDoor.WL
open Go
set_option maxHeartbeats 8000000
variable {G : Nat → Option AV}

theorem voteF_lenR {v : Vote} (h : v.sig.ok = true) : (voteF.wr v).length ≤ 3000 := by
  have hl := v.head_len
  have hs := v.sig.bytes_len
  have ho : v.sig.op.length = 32 ∧ v.sig.sh.length = 32 ∧ v.sig.path.length ≤ 6 := by simpa [Sig.ok] using h
  rw [voteF_wr, List.length_append]
  omega
theorem votesB_takeR (vs : List Vote) {j : Nat} (h : j < vs.length) : votesB (vs.take (j + 1)) = votesB (vs.take j) ++ voteF.wr vs[j] := by
  rw [← List.take_append_getElem h, votesB_snoc]
theorem votesB_lenR (vs : List Vote) (h : ∀ v ∈ vs, v.sig.ok = true) : (votesB vs).length ≤ vs.length * 3000 := by
  induction vs with
  | nil => simp [votesB]
  | cons v vs ih =>
    have h1 := voteF_lenR (h v List.mem_cons_self)
    have h2 := ih (fun u hu => h u (List.mem_cons_of_mem _ hu))
    have e : votesB (v :: vs) = voteF.wr v ++ votesB vs := by simp [votesB]
    rw [e, List.length_append, List.length_cons]
    omega
theorem rtbytes_meets (x : Cert) (hl : x.votes.length ≤ 1000) : Meets Tryd.prog G fn_r14_Bytes [x.av] [] true (.tup [.v (.string (mkS (if x.ok = true then x.bytes else []))), .v (.bool x.ok)]) [] := by
  refine meets_of_go mix k_r14_Bytes ⟨by simp, by simp, by simp⟩ ?_
  have m1 := rfnum_meets (G := G) x.round
  have m2 := rfnum_meets (G := G) (x.votes.length : Int)
  have h0 : be8 x.round ++ be8 (x.votes.length : Int) = nums [x.round, (x.votes.length : Int)] := by simp [nums]
  have l1 : (be8 x.round).length = 8 := by simp
  have l2 : (be8 (x.votes.length : Int)).length = 8 := by simp
  have l0 : (nums [x.round, (x.votes.length : Int)]).length = 16 := by simp [nums_length]
  have f0 : fitsS (8 + 8) := fitS (by omega)
  have hb : x.bytes = nums [x.round, (x.votes.length : Int)] ++ votesB x.votes := rfl
  have hbad : (∃ v ∈ x.votes, v.sig.ok = false) → x.ok = false := fun ⟨v, hv, h⟩ => by
    unfold Cert.ok
    rw [List.all_eq_false]
    exact ⟨v, hv, by simp [h]⟩
  have hgood : (∀ v ∈ x.votes, v.sig.ok = true) → x.ok = true := fun h => List.all_eq_true.2 h
  generalize x.ok = ok at *
  generalize x.bytes = xb at *
  generalize hvs : x.votes = vs at *
  generalize nums [x.round, (vs.length : Int)] = x1 at *
  generalize be8 x.round = y1 at *
  generalize be8 (vs.length : Int) = y2 at *
  simp [Cert.av, hvs]
  refine call_intro m1 ?_ ?_
  · simp
  simp
  refine call_intro m2 ?_ ?_
  · simp
  simp [l1, l2, f0, h0]
  refine go_up vs.length (fun j (z : Bytes) => z = x1 ++ votesB (vs.take j) ∧ ∀ i (h : i < vs.length), i < j → vs[i].sig.ok = true) (fun j z q => ⟨[(4, .v (.string (mkS z))), (18, .sl 41 (Votes vs)), (19, .v (.int .i64 (vs.length : Nat))), (20, .v (.int .i64 (j : Nat)))], [], q + 1⟩) x1 _ (Weak.re (by simp)) ⟨by simp [votesB], by intro i _ h; omega⟩ ?_ ?_
  · rintro j z q hj ⟨hz, hx⟩
    have hw : IntKind.i64.wrap ((j : Int) + 1) = ((j + 1 : Nat) : Int) := w64_succ (by omega)
    obtain ⟨v, hv⟩ : ∃ v, vs[j] = v := ⟨_, rfl⟩
    have hmem : v ∈ vs := by rw [← hv]; exact List.getElem_mem hj
    cases hk : v.sig.ok
    · have hr := hbad ⟨v, hmem, hk⟩
      have m3 := rvbytes_bad (G := G) v hk
      simp [hj, hv]
      refine call_intro m3 ?_ ?_
      · simp
      simp
      refine post_end (.inr rfl) ?_
      simp [hr]
    · have m3 := rvbytes_meets (G := G) v hk
      have hvl := voteF_lenR hk
      have hzl : z.length ≤ 16 + j * 3000 := by
        have := votesB_lenR (vs.take j) (fun u hu => by
          obtain ⟨i, hi, rfl⟩ := List.getElem_of_mem hu
          rw [List.getElem_take]
          have hi' : i < j ∧ i < vs.length := by rw [List.length_take] at hi; omega
          exact hx i hi'.2 hi'.1)
        rw [hz, List.length_append, l0]
        rw [List.length_take] at this
        have hm : min j vs.length = j := by omega
        rw [hm] at this
        omega
      have f1 : fitsS (z.length + (voteF.wr v).length) := fitS (by omega)
      have hz2 : z ++ voteF.wr v = x1 ++ votesB (vs.take (j + 1)) := by rw [hz, votesB_takeR _ hj, hv, List.append_assoc]
      generalize voteF.wr v = y at *
      simp [hj, hv]
      refine call_intro m3 ?_ ?_
      · simp
      simp [f1, hw]
      refine ⟨z ++ y, _, Weak.re (by simp), hz2, ?_⟩
      intro i hi hij
      rcases (show i < j ∨ i = j by omega) with h1 | rfl
      · exact hx i hi h1
      · rw [hv]; exact hk
  · rintro z q ⟨hz, hx⟩
    have hr := hgood (fun v hv => by
      obtain ⟨i, hi, rfl⟩ := List.getElem_of_mem hv
      exact hx i hi hi)
    rw [List.take_length] at hz
    have hzb : z = xb := by rw [hz, hb]
    subst hzb
    simp
    refine post_end (.inr rfl) ?_
    simp [hr]
theorem certB_len {x : Cert} (h : x.ok = true) (hl : x.votes.length ≤ 1000) : x.bytes.length ≤ 16 + x.votes.length * 3000 := by
  have hg : ∀ v ∈ x.votes, v.sig.ok = true := List.all_eq_true.1 h
  have := votesB_lenR x.votes hg
  have e : x.bytes = nums [x.round, (x.votes.length : Int)] ++ votesB x.votes := rfl
  rw [e, List.length_append, nums_length]
  simp
  omega
end Go.Proofs.YtjlmpdbagmdbiaaDoor.WL

end
section
/-
  CHAPTER 13, 14, 15, 08: contracts of the reference: things are the same as themselves.
-/
namespace Go.Proofs.YtjlmpdbagmdbiaaDoor.WL
open Go
set_option maxHeartbeats 4000000
variable {G : Nat → Option AV}
attribute [local irreducible] sha
attribute [local irreducible] Rd.sig Rd.sig' Rd.blk Rd.blk' Rd.inn Rd.inn' Rd.dg Rd.dg' Rd.rep Rd.rep' repR

def Sig.small (s : Sig) : Prop := s.op.length ≤ 1000 ∧ s.sh.length ≤ 1000 ∧ s.path.length ≤ 1000
theorem ksame_refl (s : Sig) (h : s.small) : Meets Tryd.prog G fn_r05_Same [s.avS, s.avS] [] true (.v (.bool true)) [] := by
  obtain ⟨h1, h2, h3⟩ := h
  have := rksame_meets (G := G) s s (by omega) (by omega) (by omega)
  have e : s.same s = true := by simp [Sig.same]
  rwa [e] at this
theorem vsame_refl (v : Vote) (h : v.sig.small) : Meets Tryd.prog G fn_r13_Same [v.av, v.av] [] true (.v (.bool true)) [] := by
  refine meets_of_go mix k_r13_Same ⟨by simp, by simp, by simp⟩ ?_
  have m1 := ksame_refl (G := G) v.sig h
  simp [Vote.av, dv]
  refine call_intro m1 ?_ ?_
  · simp
  simp
  refine post_end (.inr rfl) ?_
  simp
def Cert.small (x : Cert) : Prop := x.votes.length ≤ 1000 ∧ ∀ v ∈ x.votes, v.sig.small
theorem tsame_refl (x : Cert) (h : x.small) : Meets Tryd.prog G fn_r14_Same [x.av, x.av] [] true (.v (.bool true)) [] := by
  refine meets_of_go mix k_r14_Same ⟨by simp, by simp, by simp⟩ ?_
  obtain ⟨h1, h2⟩ := h
  generalize hvs : x.votes = vs at *
  simp [Cert.av, hvs]
  refine go_up vs.length (fun j (_ : Unit) => True) (fun j _ c => ⟨[(2, .ptr 2 c 0), (3, .ptr 3 c 0), (22, .v (.int .i64 (vs.length : Nat))), (23, .v (.int .i64 (j : Nat)))], [(2, .var c (.node [.v (.int .i64 x.round), .sl 41 (Votes vs)])), (3, .var c (.node [.v (.int .i64 x.round), .sl 41 (Votes vs)]))], c + 1⟩) () _ (Weak.re (by simp)) trivial ?_ ?_
  · intro j _ c hj _
    have hw : IntKind.i64.wrap ((j : Int) + 1) = ((j + 1 : Nat) : Int) := w64_succ (by omega)
    have m1 := vsame_refl (G := G) vs[j] (h2 _ (List.getElem_mem hj))
    simp [hj]
    refine call_intro m1 ?_ ?_
    · simp
    simp
    simp [hw]
    exact ⟨(), _, Weak.re (by simp), trivial⟩
  · intro _ c _
    simp
    refine post_end (.inr rfl) ?_
    simp
def Lnk.small (l : Lnk) : Prop := l.blk.qs.length ≤ 1000 ∧ l.cert.small ∧ l.conf.ms.length ≤ 1000
/-! What is read is small. -/
theorem sig_small (r : Rd) : r.sig.small := by
  unfold Rd.sig Sig.small
  split
  · simp [Sig.zero]
  · have := r.sN_eq
    simp [Rd.sig0]
    omega
theorem vote_small (r : Rd) : (voteF.rd r).sig.small := by
  rw [voteF_rd]
  split
  · simp [Vote.zero, Sig.zero, Sig.small]
  · exact sig_small _
theorem repR_all {α : Type} {F : Fmt α} {p : α → Prop} (h : ∀ r, p (F.rd r)) (r : Rd) : ∀ n, ∀ a ∈ (repR (fun _ => F) r n).1, p a
  | 0 => by simp [repR]
  | n + 1 => by
    simp only [repR, List.mem_append, List.mem_singleton]
    rintro a (ha | rfl)
    · exact repR_all h r n a ha
    · exact h _
theorem cert_small (r : Rd) : (certF.rd r).small := by
  rw [certF_rd]
  split
  · simp [Cert.zero, Cert.small]
  · have := count10 (r.inn' 0 1024)
    refine ⟨?_, repR_all (F := voteF) (p := fun v => v.sig.small) vote_small _ _⟩
    show (repR (fun _ => voteF) ((r.inn' 0 1024).inn' 1 10) r.certN).1.length ≤ 1000
    rw [repR_length]
    unfold Rd.certN
    omega
end Go.Proofs.YtjlmpdbagmdbiaaDoor.WL

end
