/- Texts put together: S14l, S14m, L05a, L14a, L12a, L12b, L14b, T02, P14, S14a, S05d, S13s, L14c. -/
import Derived.Test.YtjlmpdbagmdbiaaDoorWm12
import Derived.Test.YtjlmpdbagmdbiaaDoorRows
import Derived.ProofKit
import Derived.LaidMore
import Derived.Lib.LaidTab
section
/-
  CHAPTER 14: the reference: whether a word is right.
-/
namespace Go.Proofs.YtjlmpdbagmdbiaaDoor.WL
open Go
set_option maxHeartbeats 8000000
variable {G : Nat → Option AV}
theorem rightV_src {c : Conf} {v : Vote} (h : rightV c v = true) : 0 < v.src := by
  unfold rightV at h
  simp only [Bool.and_eq_true] at h
  have := h.1.1.2
  unfold Vote.good at this
  simp only [Bool.and_eq_true, decide_eq_true_eq] at this
  omega
attribute [local irreducible] sha comp hb checkK idxOf Vote.signs Vote.good rightV Conf.good Blk.good Blk.dg quorum

theorem rccheck_meets (c : Conf) (b : Blk) (x : Cert) (hn : c.ms.length ≤ 1000000) (hm : ∀ m ∈ c.ms, W64 m.height) (hv : ∀ v ∈ x.votes, W64 v.sig.leaf) (hl : x.votes.length ≤ 1000000) (hb : b.bytes.length ≤ 40000000) (hq : b.qs.length ≤ 1000000) :
    Meets Tryd.prog Gt fn_r14_Check [c.av, b.avS, x.av] [] true (.v (.bool (checkC c b x))) [] := by
  refine meets_of_go mix k_r14_Check ⟨by simp, by simp, by simp⟩ ?_
  have m1 := rgood08_meets (G := Gt) c
  have m2 := rbgood_meets (G := Gt) b
  have m3 := rquorum_meets (G := Gt) c.ms.length hn
  have m4 := rbdigest_meets b hb hq
  cases h1 : c.good
  · rw [h1] at m1
    simp [Conf.av, Blk.avS, Cert.av, dv]
    refine call_intro m1 ?_ ?_
    · simp [Conf.av, dv]
    simp
    refine post_end (.inr rfl) ?_
    simp [checkC, h1]
  cases h2 : b.good
  · rw [h1] at m1
    rw [h2] at m2
    simp [Conf.av, Blk.avS, Cert.av, dv]
    refine call_intro m1 ?_ ?_
    · simp [Conf.av, dv]
    simp
    refine call_intro m2 ?_ ?_
    · simp [Blk.avS, dv]
    simp
    refine post_end (.inr rfl) ?_
    simp [checkC, h2]
  by_cases h3 : b.epoch = c.epoch
  case neg =>
    rw [h1] at m1
    rw [h2] at m2
    simp [Conf.av, Blk.avS, Cert.av, dv]
    refine call_intro m1 ?_ ?_
    · simp [Conf.av, dv]
    simp
    refine call_intro m2 ?_ ?_
    · simp [Blk.avS, dv]
    simp [h3]
    refine post_end (.inr rfl) ?_
    simp [checkC, h3]
  have h3' := eq_true h3
  by_cases h4 : quorum c.ms.length ≤ x.votes.length
  case neg =>
    have h4' : x.votes.length < quorum c.ms.length := by omega
    rw [h1] at m1
    rw [h2] at m2
    simp [Conf.av, Blk.avS, Cert.av, dv]
    refine call_intro m1 ?_ ?_
    · simp [Conf.av, dv]
    simp
    refine call_intro m2 ?_ ?_
    · simp [Blk.avS, dv]
    simp [h3']
    refine call_intro m3 ?_ ?_
    · simp [Conf.av, dv]
    simp [h4']
    refine post_end (.inr rfl) ?_
    simp [checkC, h4]
  have hno := @checkC_no c b x
  have hyes := checkC_yes h1 h2 h3 h4
  have hvo : ∀ j, voteOk c b x j = (decide (lastSrc x.votes j < (x.votes[j]!).src) && decide ((x.votes[j]!).kind = 2) && decide ((x.votes[j]!).height = b.height) && decide ((x.votes[j]!).round = x.round) && decide ((x.votes[j]!).dg = b.dg) && rightV c (x.votes[j]!)) := fun _ => rfl
  have hsrc := @rightV_src c
  have m5 : ∀ v ∈ x.votes, Meets Tryd.prog Gt fn_r13_Right [c.av, v.av] [] true (.v (.bool (rightV c v))) [] := fun v hv' => rvright_meets c v hn hm (hv v hv')
  have h4' : ¬ x.votes.length < quorum c.ms.length := by omega
  rw [h1] at m1
  rw [h2] at m2
  generalize checkC c b x = res at *
  obtain ⟨ok, hok⟩ : ∃ ok : Nat → Bool, ok = voteOk c b x := ⟨_, rfl⟩
  rw [← hok] at hno hyes hvo
  generalize b.dg = d at *
  generalize quorum c.ms.length = qn at *
  obtain ⟨R, hR⟩ : ∃ R : Vote → Bool, R = rightV c := ⟨_, rfl⟩
  rw [← hR] at hvo m5 hsrc
  simp [Conf.av, Blk.avS, Cert.av, dv]
  refine call_intro m1 ?_ ?_
  · simp [Conf.av, dv]
  simp
  refine call_intro m2 ?_ ?_
  · simp [Blk.avS, dv]
  simp [h3']
  refine call_intro m3 ?_ ?_
  · simp [Conf.av, dv]
  simp [h4', h4]
  refine go_up x.votes.length (fun j (_ : Unit) => ∀ i, i < j → ok i = true) (fun j (_ : Unit) q => ⟨[(3, .ptr 3 q 0), (4, .ptr 4 q 0), (5, .ptr 5 q 0), (35, .sl 41 (Votes x.votes)), (36, .v (.int .i64 (x.votes.length : Nat))), (37, .v (.int .i64 (j : Nat)))],
    [(3, .var q (.node [.v (.int .i64 c.epoch), .sl 34 (Mems c.ms)])), (4, .var q (.node [.v (.int .i64 b.epoch), .v (.int .i64 b.height), .arr 1 (B b.prev.bs), .arr 1 (B b.state.bs), .arr 1 (B b.next.bs), .sl 42 (Reqs b.qs)])), (5, .var q (.node [.v (.int .i64 x.round), .sl 41 (Votes x.votes)]))], q + 1⟩) () _ (Weak.re (by simp)) (by intro i h; omega) ?_ ?_
  · intro j _ q hj hx
    have hw : IntKind.i64.wrap ((j : Int) + 1) = ((j + 1 : Nat) : Int) := w64_succ (by omega)
    have hs : IntKind.i64.wrap ((j : Int) - 1) = (j : Int) - 1 := w64_id (by omega)
    obtain ⟨v, hv'⟩ : ∃ v, x.votes[j] = v := ⟨_, rfl⟩
    have hvb : x.votes[j]! = v := by simp [hj, hv']
    have e := hvo j
    rw [hvb] at e
    have m6 := m5 v (by rw [← hv']; exact List.getElem_mem hj)
    have hf : ok j = false → res = false := hno hj
    have hnext : ok j = true → ∀ i, i < j + 1 → ok i = true := by
      intro h i hi
      rcases (show i < j ∨ i = j by omega) with h1 | rfl
      · exact hx i h1
      · exact h
    by_cases c2 : v.kind = 2
    case neg =>
      have hr := hf (by rw [e]; simp [c2])
      simp [hj, hv', Vote.av, dv, c2]
      refine post_end (.inr rfl) ?_
      simp [hr]
    by_cases c4 : v.round = x.round
    case neg =>
      have hr := hf (by rw [e]; simp [c4])
      simp [hj, hv', Vote.av, dv, eq_true c2, c4]
      refine post_end (.inr rfl) ?_
      simp [hr]
    by_cases c3 : v.height = b.height
    case neg =>
      have hr := hf (by rw [e]; simp [c3])
      simp [hj, hv', Vote.av, dv, eq_true c2, eq_true c4, c3]
      refine post_end (.inr rfl) ?_
      simp [hr]
    by_cases c5 : v.dg = d
    case neg =>
      have hr := hf (by rw [e]; simp [c5])
      simp [hj, hv', Vote.av, dv, eq_true c2, eq_true c3, eq_true c4]
      refine call_intro m4 ?_ ?_
      · simp [Blk.avS, dv]
      simp [dv, c5]
      refine post_end (.inr rfl) ?_
      simp [hr]
    simp [hj, hv', Vote.av, dv, eq_true c2, eq_true c3, eq_true c4]
    refine call_intro m4 ?_ ?_
    · simp [Blk.avS, dv]
    simp [dv, eq_true c5]
    rcases Nat.eq_zero_or_pos j with hj0 | hj1
    · subst hj0
      simp
      refine call_intro m6 ?_ ?_
      · simp [Conf.av, Vote.av, dv]
      simp
      have hw1 : IntKind.i64.wrap 1 = 1 := w64_id (by omega)
      cases hb' : R v
      · have hr := hf (by rw [e]; simp [hb'])
        simp
        refine post_end (.inr rfl) ?_
        simp [hr]
      · have hs0 := hsrc hb'
        have hok' : ok 0 = true := by
          have hl0 : lastSrc x.votes 0 = 0 := rfl
          rw [e, hb', hl0]
          simp [c2, c3, c4, c5, hs0]
        simp [hw1]
        exact ⟨(), _, Weak.re (by simp), hnext hok'⟩
    · obtain ⟨k, rfl⟩ : ∃ k, j = k + 1 := ⟨j - 1, by omega⟩
      obtain ⟨u, hu⟩ : ∃ u, x.votes[k] = u := ⟨_, rfl⟩
      have hub : x.votes[k]! = u := by simp [show k < x.votes.length by omega, hu]
      have hls : lastSrc x.votes (k + 1) = u.src := by simp [lastSrc, hub]
      rw [hls] at e
      have hs' : IntKind.i64.wrap (k : Int) = (k : Int) := w64_id (by omega)
      have hk1 : k < x.votes.length := by omega
      have hk2 : (k : Int) + 1 - 1 = k := by omega
      have hk3 : (0 : Int) < (k : Int) + 1 := by omega
      have hw2 : IntKind.i64.wrap ((k : Int) + 1 + 1) = (k : Int) + 1 + 1 := w64_id (by omega)
      by_cases c1 : v.src ≤ u.src
      · have hr := hf (by rw [e]; simp; omega)
        simp [hk2, hs', hk1, hk3, hu, Vote.av, dv, c1]
        refine post_end (.inr rfl) ?_
        simp [hr]
      simp [hk2, hs', hk1, hk3, hu, Vote.av, dv, c1]
      refine call_intro m6 ?_ ?_
      · simp [Conf.av, Vote.av, dv]
      simp
      cases hb' : R v
      · have hr := hf (by rw [e]; simp [hb'])
        simp
        refine post_end (.inr rfl) ?_
        simp [hr]
      · have hok' : ok (k + 1) = true := by
          rw [e, hb']
          simp [c2, c3, c4, c5]
          omega
        simp [hw2]
        exact ⟨(), _, Weak.re (by simp), hnext hok'⟩
  · intro _ q hx
    have hr := hyes hx
    simp
    refine post_end (.inr rfl) ?_
    simp [hr]
end Go.Proofs.YtjlmpdbagmdbiaaDoor.WL

end
section
/-
  CHAPTER 14: cert.Make.
-/
namespace Go.Proofs.YtjlmpdbagmdbiaaDoor.WL
open Go
set_option maxHeartbeats 8000000
variable {G : Nat → Option AV}
attribute [local irreducible] sha comp hb checkK quorum

theorem cmake_few (c : Conf) (vs : List Vote) (hn : c.ms.length ≤ 1000000) (h : vs.length < quorum c.ms.length) : Meets Tryd.prog G fn_cert_Make [c.av, .sl 41 (Votes vs)] [] true (.tup [.node [.v (.int .i64 0), .v (.slice none 0 0)], .v (.bool false)]) [] := by
  refine meets_of_go mix k_cert_Make ⟨by simp, by simp, by simp⟩ ?_
  have m1 := cquorum_meets (G := G) c hn
  generalize quorum c.ms.length = q at *
  have h' : (vs.length : Int) < (q : Nat) := by omega
  simp [Conf.av]
  refine call_intro m1 ?_ ?_
  · simp [Conf.av]
  simp [h, h']
  refine post_end (.inr rfl) ?_
  simp
theorem cmake_meets (c : Conf) (vs : List Vote) (hn : c.ms.length ≤ 1000000) (h : quorum c.ms.length ≤ vs.length) (h0 : 0 < vs.length) (hl : vs.length ≤ 1000000) : Meets Tryd.prog G fn_cert_Make [c.av, .sl 41 (Votes vs)] [] false (.tup [(Cert.mk (vs[0]).round (vs.take (quorum c.ms.length))).av, .v (.bool true)]) [] := by
  refine meets_of_go mix k_cert_Make ⟨by simp, by simp [Cert.av], by simp⟩ ?_
  have m1 := cquorum_meets (G := G) c hn
  generalize quorum c.ms.length = q at *
  have h' : ¬ vs.length < q := by omega
  have h2 : ¬ (vs.length : Int) < (q : Nat) := by omega
  have hm : min q vs.length = q := by omega
  have hf : fitsB q 152 := fits (by omega) (by omega)
  have ht : List.take q (Votes (List.take q vs)) = Votes (List.take q vs) := List.take_of_length_le (by simp; omega)
  simp [Conf.av]
  refine call_intro m1 ?_ ?_
  · simp [Conf.av]
  simp [h, h', h2, h0, Vote.av, hm, hf]
  refine post_end (.inr rfl) ?_
  simp [hm, h, Cert.av, ht]
end Go.Proofs.YtjlmpdbagmdbiaaDoor.WL

end
section
/-
  CHAPTER 05: walks of laws.
-/
namespace Go.Proofs.YtjlmpdbagmdbiaaDoor.WL
open Go
set_option maxHeartbeats 4000000
attribute [local irreducible] comp hb sha leafD pairD secD shutD wholeD pubD ofD

def Dg.one (b : UInt8) : Dg := ⟨b :: zeros 31, by simp⟩
theorem one_set (b : UInt8) : AV.arr 1 ((B (zeros 32)).set 0 (bv b)) = dv (Dg.one b) := (rfl)
theorem bv1 : AV.v (.int .u8 1) = bv 1 := (rfl)
attribute [local irreducible] Dg.one

def Sig.greatF (s : Sig) : Bool := decide (200 < s.op.length) || decide (200 < s.sh.length) || decide (200 < s.path.length)
end Go.Proofs.YtjlmpdbagmdbiaaDoor.WL

end
section
/-
  CHAPTER 14: the laws' first question, and how great an input is.
-/
namespace Go.Proofs.YtjlmpdbagmdbiaaDoor.WL
open Go
set_option maxHeartbeats 8000000
variable {G : Nat → Option AV}

noncomputable def c_alive14 : CCode :=
  .seq (.region c_l14_alive_r0 none []) (.seq (.region c_l14_alive_r1 none [1, 2]) (.seq (.seq (.region c_l14_alive_r2 none [1, 14]) (.cond (.t 14) (.seq (.region c_l14_alive_r3 none [0]) (.ret)) (.skip))) (.seq (.region c_l14_alive_r4 none [1, 3]) (.seq (.region c_l14_alive_r5 none [1, 3, 4]) (.seq (.region c_l14_alive_r6 none [1, 3, 4, 5]) (.seq (.region c_l14_alive_r7 none [3, 4, 5]) (.ghost (.seq (.region c_l14_alive_r8 none [3, 4, 6, 7]) (.seq (.region c_l14_alive_r9 none [0]) (.ret))))))))))
theorem k_alive14 : chkFn Tryd.prog fn_l14_alive c_alive14 R_l14_alive 0 = true := by kernel_rfl

theorem ksign_frz (seed : Dg) (h : Int) (ls : List Dg) (n : Nat) (d : Dg) (hn : n < ls.length) (hl : ls.length ≤ 1000000) (N : Nat) (hN : N = 32) :
    Meets Tryd.prog Gt fn_keys_Tree_Sign [.ptr 1000 0 0, .v (.int .i64 (n : Nat)), dv d] (trM 0 seed h ls) false (.tup [(signK seed ls n d N).avS, .v (.int .i64 0)]) (trM 1 seed h ls) := by
  refine (ksign_meets seed h ls n d hn hl N hN).freeze ⟨by simp [trM], by simp [trM], by simp [trM]⟩ ?_
  generalize signK seed ls n d N = s at *
  simp [trM, Sig.avR, Sig.avS, Sig.rows]
attribute [local irreducible] comp hb sha leafD pairD secD shutD wholeD pubD ofD Dg.one

def Blk.h1 : Blk := ⟨0, 1, Dg.zero, Dg.zero, Dg.zero, []⟩
def mem14 (R : Dg) : Mem := ⟨1, R, 0⟩
def conf14 (R : Dg) : Conf := ⟨0, [mem14 R]⟩
def vote14 (d : Dg) (s : Sig) : Vote := ⟨2, 0, 1, 0, d, 1, s⟩
def cert14 (d : Dg) (s : Sig) : Cert := ⟨0, [vote14 d s]⟩
theorem check14 (R : Dg) (s : Sig) (h : checkK R 0 (vote14 Blk.h1.dg Sig.zero).signs s = true) : checkC (conf14 R) Blk.h1 (cert14 Blk.h1.dg s) = true := by
  have hid : idxOf (conf14 R).ms 1 = ((0 : Nat) : Int) := idxOf_hit (k := 0) (by simp [conf14]) (by simp [conf14, mem14]) (by intro j _ hj; omega)
  have hr : rightV (conf14 R) (vote14 Blk.h1.dg s) = true := by
    rw [rightV_some (k := 0) (by simp [conf14]) hid]
    have hs : (vote14 Blk.h1.dg s).signs = (vote14 Blk.h1.dg Sig.zero).signs := rfl
    have hg : (vote14 Blk.h1.dg s).good = true := by simp [vote14, Vote.good]
    rw [hs, hg]
    show (true && decide ((0 : Int) = 0) && checkK R 0 (vote14 Blk.h1.dg Sig.zero).signs s) = true
    rw [h]
    rfl
  refine checkC_yes ?_ ?_ rfl ?_ ?_
  · simp [conf14, mem14, Conf.good, memOk, Mem.good]
  · simp [Blk.h1, Blk.good]
  · simp [conf14, cert14, quorum, faults]
  · intro j hj
    have : j = 0 := by simpa [cert14] using hj
    subst this
    simp [voteOk, cert14, lastSrc, hr]
    simp [vote14, Blk.h1]
theorem alive14_meets : Meets Tryd.prog Gt fn_l14_alive [] [] true (.v (.bool true)) [] := by
  refine meets_of_awp mix k_alive14 ⟨by simp, by simp, by simp⟩ (awp_go ?_)
  have o1 := one_set 1
  generalize Dg.one 1 = D1 at *
  have m1 := knew_meets D1 0 (by omega) 32 rfl
  have hl := leavesD_length D1 32 (2 ^ 0)
  have hbl : Blk.h1.bytes.length = 120 := by rw [Blk.bytes_len]; rfl
  have m3 := bdigest_meets Blk.h1 (by omega) (by simp [Blk.h1])
  have hc := sign_checks D1 0 0 (vote14 Blk.h1.dg Sig.zero).signs (by omega) (by decide)
  generalize leavesD D1 32 (2 ^ 0) = l at *
  have hl1 : l.length = 1 := hl
  have m2 := kkey_meets D1 ((0 : Nat) : Int) l (by omega)
  have m5 := ksign_frz D1 ((0 : Nat) : Int) l 0 (vote14 Blk.h1.dg Sig.zero).signs (by omega) (by omega) 32 rfl
  have hS0 : W64 (signK D1 l 0 (vote14 Blk.h1.dg Sig.zero).signs 32).leaf := by simp [signK, W64]
  generalize signK D1 l 0 (vote14 Blk.h1.dg Sig.zero).signs 32 = S at *
  generalize rootD l = R at *
  have hk := check14 R S hc
  have m4 := vsigns_meets (vote14 Blk.h1.dg Sig.zero)
  have hq : quorum (conf14 R).ms.length = 1 := by simp [conf14, quorum, faults]
  have m6 := cmake_meets (G := Gt) (conf14 R) [vote14 Blk.h1.dg S] (by simp [conf14]) (by rw [hq]; simp) (by simp) (by simp)
  rw [hq] at m6
  have m7 := ccheck_meets (conf14 R) Blk.h1 (cert14 Blk.h1.dg S) (by simp [conf14]) (by simp [conf14, mem14, W64]) (by simp [cert14, vote14]; exact hS0) (by simp [cert14]) (by omega) (by simp [Blk.h1])
  rw [hk] at m7
  clear hk hc hbl hq
  generalize (vote14 Blk.h1.dg Sig.zero).signs = sg at *
  generalize Blk.h1.dg = bd at *
  simp only [Int.natCast_zero] at m1 m2 m5
  simp [c_alive14, bv1, o1]
  refine call_intro m1 ?_ ?_
  · simp [trM1]
  simp [trM1, hl1, o1]
  refine call_intro m2 ?_ ?_
  · simp [trM, hl1]
  simp [trM, hl1]
  refine call_intro m3 ?_ ?_
  · simp [Blk.h1, Blk.avS, dv]
  simp [Blk.h1, Blk.avS, dv]
  refine call_intro m4 ?_ ?_
  · simp [vote14, Vote.av, Sig.zero, Sig.avS, dv]
  simp [dv]
  refine call_intro m5 ?_ ?_
  · simp [trM, hl1, dv]
  simp [trM, hl1, dv]
  refine go_ghost ⟨[(3, .ptr 3 36 0), (4, .ptr 4 36 0), (5, .ptr 5 36 0)], [(3, .var 36 (conf14 R).av), (4, .var 36 Blk.h1.avS), (5, .var 36 (vote14 bd S).av)], 37⟩ (Weak.re (by simp [conf14, mem14, Conf.av, Mems, Mem.av, Blk.h1, Blk.avS, vote14, Vote.av, dv])) ?_
  have e6 : (Cert.mk [vote14 bd S][0].round (List.take 1 [vote14 bd S])) = cert14 bd S := rfl
  rw [e6] at m6
  have hv1 : [(vote14 bd S).av] = Votes [vote14 bd S] := rfl
  simp
  refine call_intro m6 ?_ ?_
  · simp [hv1]
  simp [hv1, Cert.av]
  refine call_intro m7 ?_ ?_
  · simp [Cert.av]
  simp
  refine post_end (.inr rfl) ?_
  simp
end Go.Proofs.YtjlmpdbagmdbiaaDoor.WL

end
section
/-
  CHAPTER 12: walks of laws.
-/
namespace Go.Proofs.YtjlmpdbagmdbiaaDoor.WL
open Go
set_option maxHeartbeats 4000000
variable {G : Nat → Option AV}

def Blk.one : Blk := ⟨0, 1, Dg.zero, Dg.zero, Dg.zero, []⟩
end Go.Proofs.YtjlmpdbagmdbiaaDoor.WL

end
section
/-
  CHAPTER 12: walks of laws: reading.
-/
namespace Go.Proofs.YtjlmpdbagmdbiaaDoor.WL
open Go
set_option maxHeartbeats 4000000
variable {G : Nat → Option AV}

theorem great_no {b : Blk} {m : Nat} (h : b.great m = false) : b.qs.length ≤ 40 ∧ (reqsB b.qs).length ≤ m := by
  simp only [Blk.great, Bool.or_eq_false_iff, decide_eq_false_iff_not] at h
  omega
end Go.Proofs.YtjlmpdbagmdbiaaDoor.WL

end
section
/-
  CHAPTER 14: walks of laws.
-/
namespace Go.Proofs.YtjlmpdbagmdbiaaDoor.WL
open Go
set_option maxHeartbeats 8000000
variable {G : Nat → Option AV}
attribute [local irreducible] sha comp hb checkK idxOf Vote.signs Vote.good rightV Conf.good Blk.good Blk.dg quorum checkC

def greatC (c : Conf) (b : Blk) (x : Cert) : Bool := decide (20 < c.ms.length) || b.great 4096 || decide (12 < x.votes.length) || x.votes.any fun v => v.sig.greatF
theorem great14_meets (c : Conf) (b : Blk) (x : Cert) (hf : ∀ q ∈ b.qs, q.key.length ≤ reachBytes ∧ q.val.length ≤ reachBytes ∧ q.old.length ≤ reachBytes) :
    Meets Tryd.prog G fn_l14_great [c.av, b.avS, x.av] [] true (.v (.bool (greatC c b x))) [] := by
  refine meets_of_go mix k_l14_great ⟨by simp, by simp, by simp⟩ ?_
  have m1 := bgreat_meets (G := G) b 4096 (by omega) hf
  simp only [Int.cast_ofNat_Int] at m1
  unfold greatC
  by_cases c1 : (20 : Int) < (c.ms.length : Nat)
  · have d1 : 20 < c.ms.length := by omega
    simp [Conf.av, Blk.avS, Cert.av, c1]
    refine post_end (.inr rfl) ?_
    simp [d1]
  have d1 : ¬ 20 < c.ms.length := by omega
  cases g : b.great 4096
  case true =>
    rw [g] at m1
    simp [Conf.av, Blk.avS, Cert.av, c1]
    refine call_intro m1 ?_ ?_
    · simp [Blk.avS]
    simp
    refine post_end (.inr rfl) ?_
    simp
  rw [g] at m1
  by_cases c2 : (12 : Int) < (x.votes.length : Nat)
  · have d2 : 12 < x.votes.length := by omega
    simp [Conf.av, Blk.avS, Cert.av, c1]
    refine call_intro m1 ?_ ?_
    · simp [Blk.avS]
    simp [c2]
    refine post_end (.inr rfl) ?_
    simp [d2]
  have d2 : ¬ 12 < x.votes.length := by omega
  have hl : x.votes.length ≤ 12 := by omega
  have hres : (decide (20 < c.ms.length) || false || decide (12 < x.votes.length) || x.votes.any fun v => v.sig.greatF) = x.votes.any fun v => v.sig.greatF := by simp [d1, d2]
  rw [hres]
  generalize hvs : x.votes = vs at *
  simp [Conf.av, Blk.avS, Cert.av, c1, hvs]
  refine call_intro m1 ?_ ?_
  · simp [Blk.avS]
  simp [c2]
  refine go_up vs.length (fun j (_ : Unit) => ∀ i (h : i < vs.length), i < j → vs[i].sig.greatF = false) (fun j (_ : Unit) q => ⟨[(24, .sl 41 (Votes vs)), (25, .v (.int .i64 (vs.length : Nat))), (26, .v (.int .i64 (j : Nat)))], [], q + 1⟩) () _ (Weak.re (by simp)) (by intro i _ h; omega) ?_ ?_
  · intro j _ q hj hx
    have hw : IntKind.i64.wrap ((j : Int) + 1) = ((j + 1 : Nat) : Int) := w64_succ (by omega)
    obtain ⟨v, hv⟩ : ∃ v, vs[j] = v := ⟨_, rfl⟩
    have hyes : v.sig.greatF = true → (vs.any fun v => v.sig.greatF) = true := fun h => List.any_eq_true.2 ⟨v, by rw [← hv]; exact List.getElem_mem hj, h⟩
    by_cases e1 : (200 : Int) < (v.sig.op.length : Nat)
    · have hr := hyes (by simp [Sig.greatF, show 200 < v.sig.op.length by omega])
      simp [hj, hv, Vote.av, Sig.avS, e1]
      refine post_end (.inr rfl) ?_
      simp [hr]
    by_cases e2 : (200 : Int) < (v.sig.sh.length : Nat)
    · have hr := hyes (by simp [Sig.greatF, show 200 < v.sig.sh.length by omega])
      simp [hj, hv, Vote.av, Sig.avS, e1, e2]
      refine post_end (.inr rfl) ?_
      simp [hr]
    by_cases e3 : (200 : Int) < (v.sig.path.length : Nat)
    · have hr := hyes (by simp [Sig.greatF, show 200 < v.sig.path.length by omega])
      simp [hj, hv, Vote.av, Sig.avS, e1, e2, e3]
      refine post_end (.inr rfl) ?_
      simp [hr]
    have hno : v.sig.greatF = false := by simp [Sig.greatF]; omega
    simp [hj, hv, Vote.av, Sig.avS, e1, e2, e3, hw]
    refine ⟨(), _, Weak.re (by simp), ?_⟩
    intro i hi hij
    rcases (show i < j ∨ i = j by omega) with h1 | rfl
    · exact hx i hi h1
    · rw [hv]; exact hno
  · intro _ q hx
    have hr : (vs.any fun v => v.sig.greatF) = false := by
      rw [List.any_eq_false]
      intro v hv
      obtain ⟨i, hi, rfl⟩ := List.getElem_of_mem hv
      simp [hx i hi hi]
    simp
    refine post_end (.inr rfl) ?_
    simp [hr]
theorem greatC_no {c : Conf} {b : Blk} {x : Cert} (h : greatC c b x = false) : c.ms.length ≤ 20 ∧ x.votes.length ≤ 12 ∧ b.bytes.length ≤ 5000 ∧ b.qs.length ≤ 40 ∧ ∀ v ∈ x.votes, v.sig.greatF = false := by
  simp only [greatC, Bool.or_eq_false_iff, decide_eq_false_iff_not, List.any_eq_false] at h
  have h2 := great_no h.1.1.2
  rw [Blk.bytes_len]
  refine ⟨by omega, by omega, by omega, by omega, fun v hv => by simpa using h.2 v hv⟩
theorem certChecks_walk (c : Conf) (b : Blk) (x : Cert) (hm : ∀ m ∈ c.ms, W64 m.height) (hv : ∀ v ∈ x.votes, W64 v.sig.leaf)
    (hf : ∀ q ∈ b.qs, q.key.length ≤ reachBytes ∧ q.val.length ≤ reachBytes ∧ q.old.length ≤ reachBytes) :
    Meets Tryd.prog Gt fn_l14_CertChecks [c.av, b.avS, x.av] [] true (.v (.bool true)) [] := by
  refine meets_of_go mix k_l14_CertChecks ⟨by simp, by simp, by simp⟩ ?_
  have m1 := great14_meets (G := Gt) c b x hf
  have hg := @greatC_no c b x
  have m2 : greatC c b x = false → Meets Tryd.prog Gt fn_cert_Check [c.av, b.avS, x.av] [] true (.v (.bool (checkC c b x))) [] := fun h => ccheck_meets c b x (by have := hg h; omega) hm hv (by have := hg h; omega) (by have := hg h; omega) (by have := hg h; omega)
  have m3 : greatC c b x = false → Meets Tryd.prog Gt fn_r14_Check [c.av, b.avS, x.av] [] true (.v (.bool (checkC c b x))) [] := fun h => rccheck_meets c b x (by have := hg h; omega) hm hv (by have := hg h; omega) (by have := hg h; omega) (by have := hg h; omega)
  generalize checkC c b x = r at *
  simp [Conf.av, Blk.avS, Cert.av, dv]
  refine call_intro alive14_meets ?_ ?_
  · simp
  simp
  refine call_intro m1 ?_ ?_
  · simp [Conf.av, Blk.avS, Cert.av, dv]
  simp
  cases hgr : greatC c b x
  · have m2' := m2 hgr
    have m3' := m3 hgr
    simp [hgr]
    refine call_intro m2' ?_ ?_
    · simp [Conf.av, Blk.avS, Cert.av, dv]
    simp
    refine call_intro m3' ?_ ?_
    · simp [Conf.av, Blk.avS, Cert.av, dv]
    simp
    refine post_end (.inr rfl) ?_
    simp
  · simp [hgr]
    refine post_end (.inr rfl) ?_
    simp
end Go.Proofs.YtjlmpdbagmdbiaaDoor.WL

end
section
/-
  CHAPTER 02: what the row's condition gives the walks: the table in the program's variable.
-/
namespace Go.Proofs.YtjlmpdbagmdbiaaDoor.WL
open Go

theorem gTable : Tryd.prog.globalNamed "wapentake/sha.table" = some 0 := by kernel_rfl
def tableZ : List Int := table.map w32
theorem laid_eq {H : Type} : (Rows.laid_wapentake_sha_table : DataW H) = Lib.tabData .u32 tableZ := rfl
theorem Es_ints {C : Ctx} : ∀ ws : List UInt32, Es C 1 (U ws) (ws.map fun z => Value.int .u32 (w32 z))
  | [] => rfl
  | w :: ws => ⟨[_], _, rfl, rfl, ⟨rfl, rfl⟩, Es_ints ws⟩
theorem gr_of_laid {W : World} (h : laidMetH Tryd.prog [("wapentake/sha.table", Rows.laid_wapentake_sha_table)] W) : GR ⟨W, fun k => k < W.heap.size, fun _ => none, fun _ => none, fun g => g = 0⟩ Gt := by
  rw [MakeChecks.laidMetH_plain _ _ _ (by kernel_rfl), laid_eq] at h
  have hT : Lib.TabIs Tryd.prog W "wapentake/sha.table" .u32 tableZ := by
    refine Lib.tabIs_of_head (t := 189) (e := 165) (n := 64) gTable ?_ ?_ ?_ ?_ ?_ h
    · kernel_rfl
    · kernel_rfl
    · kernel_rfl
    · kernel_rfl
    · kernel_rfl
  intro n x hx
  unfold Gt at hx
  split at hx
  · rename_i hn
    subst hn
    cases hx
    refine ⟨by simp [closed, closeds, U, closeds_all], 0, 0, _, rfl, ?_, Es_ints table, ?_⟩
    · have h0 := hT.cell gTable 0 (by decide)
      show 0 < W.heap.size
      rcases Nat.eq_zero_or_pos W.heap.size with h1 | h1
      · simp [World.cell?, Array.getElem?_eq_none (Nat.le_of_eq h1)] at h0
      · exact h1
    · intro j u hu
      have hj : j < table.length := by
        rcases Nat.lt_or_ge j table.length with h1 | h1
        · exact h1
        · rw [List.getElem?_eq_none (by simpa using h1)] at hu
          cases hu
      have h1 := hT.cell gTable j (by simpa [tableZ] using hj)
      rw [Nat.zero_add, h1]
      simp [List.getElem?_eq_getElem hj] at hu
      rw [← hu]
      simp [tableZ, List.getD_eq_getElem?_getD, List.getElem?_eq_getElem hj]
  · cases hx
end Go.Proofs.YtjlmpdbagmdbiaaDoor.WL

end
section
/-
  CHAPTER 14: the first votes of a word that is right are right.
-/
namespace Go.Proofs.YtjlmpdbagmdbiaaDoor.WL
open Go

theorem checkC_parts {c : Conf} {b : Blk} {x : Cert} (h : checkC c b x = true) : c.good = true ∧ b.good = true ∧ b.epoch = c.epoch ∧ quorum c.ms.length ≤ x.votes.length ∧ ∀ j, j < x.votes.length → voteOk c b x j = true := by
  unfold checkC at h
  simp only [Bool.and_eq_true, decide_eq_true_eq, List.all_eq_true, List.mem_range] at h
  exact ⟨h.1.1.1.1, h.1.1.1.2, h.1.1.2, h.1.2, h.2⟩
theorem voteOk_parts {c : Conf} {b : Blk} {x : Cert} {j : Nat} (h : voteOk c b x j = true) : lastSrc x.votes j < (x.votes[j]!).src ∧ (x.votes[j]!).kind = 2 ∧ (x.votes[j]!).height = b.height ∧ (x.votes[j]!).round = x.round ∧ (x.votes[j]!).dg = b.dg ∧ rightV c (x.votes[j]!) = true := by
  unfold voteOk at h
  simp only [Bool.and_eq_true, decide_eq_true_eq] at h
  exact ⟨h.1.1.1.1.1, h.1.1.1.1.2, h.1.1.1.2, h.1.1.2, h.1.2, h.2⟩
theorem quorum_pos (n : Nat) : 0 < quorum n := by unfold quorum; omega
theorem take_get! (vs : List Vote) {n j : Nat} (h : j < n) : (vs.take n)[j]! = vs[j]! := by
  simp only [List.getElem!_eq_getElem?_getD]
  rw [List.getElem?_take_of_lt h]
theorem lastSrc_take (vs : List Vote) {n j : Nat} (h : j ≤ n) : lastSrc (vs.take n) j = lastSrc vs j := by
  cases j with
  | zero => rfl
  | succ j => simp only [lastSrc]; rw [take_get! vs (by omega)]
theorem voteOk_take {c : Conf} {b : Blk} {x : Cert} {n j : Nat} (h : j < n) : voteOk c b ⟨x.round, x.votes.take n⟩ j = voteOk c b x j := by
  unfold voteOk
  simp only
  rw [take_get! _ h, lastSrc_take _ (Nat.le_of_lt h)]
theorem checkC_take {c : Conf} {b : Blk} {x : Cert} {n : Nat} (h : checkC c b x = true) (hq : quorum c.ms.length ≤ n) (hn : n ≤ x.votes.length) : checkC c b ⟨x.round, x.votes.take n⟩ = true := by
  obtain ⟨h1, h2, h3, _, h5⟩ := checkC_parts h
  refine checkC_yes h1 h2 h3 (by simp only [List.length_take]; omega) fun j hj => ?_
  simp only [List.length_take] at hj
  rw [voteOk_take (by omega)]
  exact h5 j (by omega)
theorem checkC_round {c : Conf} {b : Blk} {x : Cert} (h : checkC c b x = true) (h0 : 0 < x.votes.length) : x.votes[0].round = x.round := by
  have := (voteOk_parts ((checkC_parts h).2.2.2.2 0 h0)).2.2.2.1
  simpa [h0] using this
theorem checkC_few {c : Conf} {b : Blk} {x : Cert} (h : x.votes.length < quorum c.ms.length) : checkC c b x = false := by
  cases h' : checkC c b x
  · rfl
  · have := (checkC_parts h').2.2.2.1
    omega
/-- A word of which two votes do not rise is not right. -/
theorem checkC_rise {c : Conf} {b : Blk} {x : Cert} {j : Nat} (hj : j + 1 < x.votes.length) (h : (x.votes[j + 1]!).src ≤ (x.votes[j]!).src) : checkC c b x = false := by
  cases h' : checkC c b x
  · rfl
  · have := (voteOk_parts ((checkC_parts h').2.2.2.2 (j + 1) hj)).1
    simp only [lastSrc] at this
    omega
theorem checkC_rises {c : Conf} {b : Blk} {x : Cert} (h : checkC c b x = true) : ∀ i j, i < j → j < x.votes.length → (x.votes[i]!).src < (x.votes[j]!).src := by
  intro i j hij hj
  induction j with
  | zero => omega
  | succ j ih =>
    have h1 := (voteOk_parts ((checkC_parts h).2.2.2.2 (j + 1) hj)).1
    simp only [lastSrc] at h1
    rcases (show i < j ∨ i = j by omega) with h2 | rfl
    · have := ih h2 (by omega)
      omega
    · exact h1
end Go.Proofs.YtjlmpdbagmdbiaaDoor.WL

end
section
/-
  CHAPTER 14, 15: contracts of words and links, written and read.
-/
namespace Go.Proofs.YtjlmpdbagmdbiaaDoor.WL
open Go
set_option maxHeartbeats 4000000
variable {G : Nat → Option AV}
attribute [local irreducible] sha
attribute [local irreducible] Rd.sig Rd.sig' Rd.blk Rd.blk' Rd.inn Rd.inn' Rd.dg Rd.dg' Rd.rep Rd.rep' repR

theorem voteF_len (v : Vote) (h : v.sig.ok = true) : (voteF.wr v).length ≤ 2328 := by
  simp only [Sig.ok, decide_eq_true_eq] at h
  rw [voteF_wr, List.length_append, Sig.bytes_len]
  simp [Vote.head, nums_length]
  omega
theorem votesB_len : ∀ (vs : List Vote), (vs.all fun v => v.sig.ok) = true → (votesB vs).length ≤ 2328 * vs.length
  | [], _ => by simp [votesB]
  | v :: vs, h => by
    simp only [List.all_cons, Bool.and_eq_true] at h
    have h1 := voteF_len v h.1
    have h2 := votesB_len vs h.2
    show (voteF.wr v ++ votesB vs).length ≤ _
    rw [List.length_append, List.length_cons]
    omega
/-! Links. -/
theorem Cert.bytes_len (x : Cert) (h : x.ok = true) : x.bytes.length ≤ 16 + 2328 * x.votes.length := by
  have := votesB_len x.votes h
  simp only [Cert.bytes, List.length_append, nums_length, List.length_cons, List.length_nil]
  omega
end Go.Proofs.YtjlmpdbagmdbiaaDoor.WL

end
section
/-
  CHAPTER 05: contracts of the reference: writing and reading.
-/
namespace Go.Proofs.YtjlmpdbagmdbiaaDoor.WL
open Go
set_option maxHeartbeats 4000000
variable {G : Nat → Option AV}

/-- Where the next digest goes. -/
structure KdA where
  o : List Dg
  s : List Dg
  p : List Dg
def KdA.put (a : KdA) (i : Nat) (d : Dg) : KdA := if i < 32 then { a with o := a.o ++ [d] } else if i < 64 then { a with s := a.s ++ [d] } else { a with p := a.p ++ [d] }
end Go.Proofs.YtjlmpdbagmdbiaaDoor.WL

end
section
/-
  CHAPTER 13, 14, 15, 08: contracts of the reference: things are the same as themselves.
-/
namespace Go.Proofs.YtjlmpdbagmdbiaaDoor.WL
open Go
set_option maxHeartbeats 4000000
variable {G : Nat → Option AV}
attribute [local irreducible] sha
attribute [local irreducible] Rd.sig Rd.sig' Rd.blk Rd.blk' Rd.inn Rd.inn' Rd.dg Rd.dg' Rd.rep Rd.rep' repR

def Sig.small (s : Sig) : Prop := s.op.length ≤ 1000 ∧ s.sh.length ≤ 1000 ∧ s.path.length ≤ 1000
theorem ksame_refl (s : Sig) (h : s.small) : Meets Tryd.prog G fn_r05_Same [s.avS, s.avS] [] true (.v (.bool true)) [] := by
  obtain ⟨h1, h2, h3⟩ := h
  have := rksame_meets (G := G) s s (by omega) (by omega) (by omega)
  have e : s.same s = true := by simp [Sig.same]
  rwa [e] at this
theorem vsame_refl (v : Vote) (h : v.sig.small) : Meets Tryd.prog G fn_r13_Same [v.av, v.av] [] true (.v (.bool true)) [] := by
  refine meets_of_go mix k_r13_Same ⟨by simp, by simp, by simp⟩ ?_
  have m1 := ksame_refl (G := G) v.sig h
  simp [Vote.av, dv]
  refine call_intro m1 ?_ ?_
  · simp
  simp
  refine post_end (.inr rfl) ?_
  simp
def Cert.small (x : Cert) : Prop := x.votes.length ≤ 1000 ∧ ∀ v ∈ x.votes, v.sig.small
theorem tsame_refl (x : Cert) (h : x.small) : Meets Tryd.prog G fn_r14_Same [x.av, x.av] [] true (.v (.bool true)) [] := by
  refine meets_of_go mix k_r14_Same ⟨by simp, by simp, by simp⟩ ?_
  obtain ⟨h1, h2⟩ := h
  generalize hvs : x.votes = vs at *
  simp [Cert.av, hvs]
  refine go_up vs.length (fun j (_ : Unit) => True) (fun j _ c => ⟨[(2, .ptr 2 c 0), (3, .ptr 3 c 0), (22, .v (.int .i64 (vs.length : Nat))), (23, .v (.int .i64 (j : Nat)))], [(2, .var c (.node [.v (.int .i64 x.round), .sl 41 (Votes vs)])), (3, .var c (.node [.v (.int .i64 x.round), .sl 41 (Votes vs)]))], c + 1⟩) () _ (Weak.re (by simp)) trivial ?_ ?_
  · intro j _ c hj _
    have hw : IntKind.i64.wrap ((j : Int) + 1) = ((j + 1 : Nat) : Int) := w64_succ (by omega)
    have m1 := vsame_refl (G := G) vs[j] (h2 _ (List.getElem_mem hj))
    simp [hj]
    refine call_intro m1 ?_ ?_
    · simp
    simp
    simp [hw]
    exact ⟨(), _, Weak.re (by simp), trivial⟩
  · intro _ c _
    simp
    refine post_end (.inr rfl) ?_
    simp
theorem cmp_mem (m : Mem) : cmpA (.st [.int .i64, .st [.ints .u8 32, .int .i64]]) m.av m.av = some true := by
  have h1 := fun x y : Int => cmp_int .i64 x y
  unfold Mem.av cmpA
  simp only [cmpL, h1, Option.bind_some, Option.map_some]
  unfold cmpA
  simp only [cmpL, h1, cmp_dg, Option.bind_some, Option.map_some]
  simp
theorem csame_refl (x : Conf) (h : x.ms.length ≤ 1000) : Meets Tryd.prog G fn_r08_Same [x.av, x.av] [] true (.v (.bool true)) [] := by
  refine meets_of_go mix k_r08_Same ⟨by simp, by simp, by simp⟩ ?_
  generalize hms : x.ms = ms at *
  simp [Conf.av, hms]
  refine go_up ms.length (fun j (_ : Unit) => True) (fun j _ c => ⟨[(2, .ptr 2 c 0), (3, .ptr 3 c 0), (22, .v (.int .i64 (ms.length : Nat))), (23, .v (.int .i64 (j : Nat)))], [(2, .var c (.node [.v (.int .i64 x.epoch), .sl 34 (Mems ms)])), (3, .var c (.node [.v (.int .i64 x.epoch), .sl 34 (Mems ms)]))], c + 1⟩) () _ (Weak.re (by simp)) trivial ?_ ?_
  · intro j _ c hj _
    have hw : IntKind.i64.wrap ((j : Int) + 1) = ((j + 1 : Nat) : Int) := w64_succ (by omega)
    have hc := cmp_mem ms[j]
    simp [hj, hc, hw]
    exact ⟨(), _, Weak.re (by simp), trivial⟩
  · intro _ c _
    simp
    refine post_end (.inr rfl) ?_
    simp
def Lnk.small (l : Lnk) : Prop := l.blk.qs.length ≤ 1000 ∧ l.cert.small ∧ l.conf.ms.length ≤ 1000
/-! What is read is small. -/
end Go.Proofs.YtjlmpdbagmdbiaaDoor.WL

end
section
/-
  CHAPTER 14: walks of laws: the first votes.
-/
namespace Go.Proofs.YtjlmpdbagmdbiaaDoor.WL
open Go
set_option maxHeartbeats 8000000
variable {G : Nat → Option AV}
theorem small_of_great {x : Cert} (hl : x.votes.length ≤ 12) (h : ∀ v ∈ x.votes, v.sig.greatF = false) : x.small := by
  refine ⟨by omega, fun v hv => ?_⟩
  have := h v hv
  simp only [Sig.greatF, Bool.or_eq_false_iff, decide_eq_false_iff_not] at this
  exact ⟨by omega, by omega, by omega⟩
theorem Cert.zero_small : Cert.zero.small := by simp [Cert.zero, Cert.small]
attribute [local irreducible] sha comp hb checkK idxOf Vote.signs Vote.good rightV Conf.good Blk.good Blk.dg quorum checkC

theorem certMakes_walk (c : Conf) (b : Blk) (x : Cert) (hm : ∀ m ∈ c.ms, W64 m.height) (hv : ∀ v ∈ x.votes, W64 v.sig.leaf)
    (hf : ∀ q ∈ b.qs, q.key.length ≤ reachBytes ∧ q.val.length ≤ reachBytes ∧ q.old.length ≤ reachBytes) :
    Meets Tryd.prog Gt fn_l14_CertMakes [c.av, b.avS, x.av] [] true (.v (.bool true)) [] := by
  refine meets_of_go mix k_l14_CertMakes ⟨by simp, by simp, by simp⟩ ?_
  have m1 := great14_meets (G := Gt) c b x hf
  cases hgr : greatC c b x
  case true =>
    rw [hgr] at m1
    simp [Conf.av, Blk.avS, Cert.av, dv]
    refine call_intro alive14_meets ?_ ?_
    · simp
    simp
    refine call_intro m1 ?_ ?_
    · simp [Conf.av, Blk.avS, Cert.av, dv]
    simp
    refine post_end (.inr rfl) ?_
    simp
  obtain ⟨g1, g2, g3, g4, g5⟩ := greatC_no hgr
  rw [hgr] at m1
  have m2 := rquorum_meets (G := Gt) c.ms.length (by omega)
  have m3 := ccheck_meets c b x (by omega) hm hv (by omega) (by omega) (by omega)
  by_cases hq : quorum c.ms.length ≤ x.votes.length
  case neg =>
    have hq' : x.votes.length < quorum c.ms.length := by omega
    have m4 := cmake_few (G := Gt) c x.votes (by omega) hq'
    have m5 := tsame_refl (G := Gt) Cert.zero Cert.zero_small
    rw [checkC_few hq'] at m3
    generalize quorum c.ms.length = q at *
    simp [Conf.av, Blk.avS, Cert.av, dv]
    refine call_intro alive14_meets ?_ ?_
    · simp
    simp
    refine call_intro m1 ?_ ?_
    · simp [Conf.av, Blk.avS, Cert.av, dv]
    simp
    refine call_intro m2 ?_ ?_
    · simp
    simp
    refine call_intro m4 ?_ ?_
    · simp [Conf.av]
    simp [hq']
    refine call_intro m5 ?_ ?_
    · simp [Cert.av, Cert.zero]
    simp
    refine call_intro m3 ?_ ?_
    · simp [Conf.av, Blk.avS, Cert.av, dv]
    simp
    refine post_end (.inr rfl) ?_
    simp
  have h0 : 0 < x.votes.length := by have := quorum_pos c.ms.length; omega
  have hq' : ¬ x.votes.length < quorum c.ms.length := by omega
  have m4 := cmake_meets (G := Gt) c x.votes (by omega) hq h0 (by omega)
  have hs : (Cert.mk (x.votes[0]).round (x.votes.take (quorum c.ms.length))).small := small_of_great (by simp only [List.length_take]; omega) (fun v hv' => g5 v (List.mem_of_mem_take hv'))
  have m5 := tsame_refl (G := Gt) _ hs
  have m6 : checkC c b x = true → Meets Tryd.prog Gt fn_cert_Check [c.av, b.avS, (Cert.mk (x.votes[0]).round (x.votes.take (quorum c.ms.length))).av] [] true (.v (.bool true)) [] := fun h => by
    have e : checkC c b (Cert.mk (x.votes[0]).round (x.votes.take (quorum c.ms.length))) = true := by
      rw [checkC_round h h0]
      exact checkC_take h (Nat.le_refl _) hq
    have m := ccheck_meets c b (Cert.mk (x.votes[0]).round (x.votes.take (quorum c.ms.length))) (by omega) hm (fun v hv' => hv v (List.mem_of_mem_take hv')) (by simp only [List.length_take]; omega) (by omega) (by omega)
    rw [e] at m
    exact m
  generalize checkC c b x = r at *
  generalize quorum c.ms.length = q at *
  have hq2 : ¬ (x.votes.length : Int) < (q : Nat) := by omega
  simp [Conf.av, Blk.avS, Cert.av, dv]
  refine call_intro alive14_meets ?_ ?_
  · simp
  simp
  refine call_intro m1 ?_ ?_
  · simp [Conf.av, Blk.avS, Cert.av, dv]
  simp
  refine call_intro m2 ?_ ?_
  · simp
  simp
  refine call_intro m4 ?_ ?_
  · simp [Conf.av]
  simp [Conf.av, hq', h0, hq, Vote.av, Cert.av]
  refine call_intro m5 ?_ ?_
  · simp [Cert.av]
  simp
  refine call_intro m3 ?_ ?_
  · simp [Conf.av, Blk.avS, Cert.av, dv]
  simp
  cases r
  · simp
    refine post_end (.inr rfl) ?_
    simp
  · have m6' := m6 rfl
    simp
    refine call_intro m6' ?_ ?_
    · simp [Conf.av, Blk.avS, Cert.av, dv]
    simp
    refine post_end (.inr rfl) ?_
    simp
end Go.Proofs.YtjlmpdbagmdbiaaDoor.WL

end
