/- Texts put together: S14j, S14k, S14f, S14l, S15a, S15b, S15c, L05a, L14a, L12a, L12b. -/
import Derived.Test.YtjlmpdbagmdbiaaDoorWm10
section
/-
  CHAPTER 13: the reference: whether a vote is right.
-/
namespace Go.Proofs.YtjlmpdbagmdbiaaDoor.WL
open Go
set_option maxHeartbeats 8000000
variable {G : Nat → Option AV}
attribute [local irreducible] sha comp hb checkK idxOf Vote.good

theorem rvhead_meets (v : Vote) : Meets Tryd.prog G fn_r13_Head [v.av] [] true (.v (.string (mkS v.head))) [] := by
  refine meets_of_go mix k_r13_Head ⟨by simp, by simp, by simp⟩ ?_
  have m2 := rfdigest_meets (G := G) v.dg
  simp [Vote.av]
  refine go_up 5 (fun j (x : Bytes) => x = nums (List.take j [v.kind, v.epoch, v.height, v.round, v.src])) (fun j x q => ⟨[(1, .ptr 1 q 0), (3, .v (.string (mkS x))), (16, .arr 1 [.v (.int .i64 v.kind), .v (.int .i64 v.epoch), .v (.int .i64 v.height), .v (.int .i64 v.round), .v (.int .i64 v.src)]), (17, .v (.int .i64 (j : Nat)))],
    [(1, .var q (.node [.v (.int .i64 v.kind), .v (.int .i64 v.epoch), .v (.int .i64 v.height), .v (.int .i64 v.round), dv v.dg, .v (.int .i64 v.src), v.sig.avS]))], q + 1⟩) [] _ (Weak.re (by simp)) rfl ?_ ?_
  · intro j x q hj hx
    have hxl : x.length = 8 * j := by
      rw [hx, nums_length, List.length_take]
      simp
      omega
    rcases (show j = 0 ∨ j = 1 ∨ j = 2 ∨ j = 3 ∨ j = 4 by omega) with rfl | rfl | rfl | rfl | rfl
    · have m1 := rfnum_meets (G := G) v.kind
      have l1 : (be8 v.kind).length = 8 := by simp
      have f1 : fitsS (x.length + 8) := fitS (by omega)
      have hw : IntKind.i64.wrap 1 = 1 := w64_id (by omega)
      have hx2 : x ++ be8 v.kind = nums (List.take (0 + 1) [v.kind, v.epoch, v.height, v.round, v.src]) := by rw [hx]; simp [nums]
      generalize be8 v.kind = y at *
      simp
      refine call_intro m1 ?_ ?_
      · simp
      simp [f1, l1]
      exact ⟨x ++ y, _, Weak.re (by simp [hw]), hx2⟩
    · have m1 := rfnum_meets (G := G) v.epoch
      have l1 : (be8 v.epoch).length = 8 := by simp
      have f1 : fitsS (x.length + 8) := fitS (by omega)
      have hw : IntKind.i64.wrap 2 = 2 := w64_id (by omega)
      have hx2 : x ++ be8 v.epoch = nums (List.take (1 + 1) [v.kind, v.epoch, v.height, v.round, v.src]) := by rw [hx]; simp [nums]
      generalize be8 v.epoch = y at *
      simp
      refine call_intro m1 ?_ ?_
      · simp
      simp [f1, l1]
      exact ⟨x ++ y, _, Weak.re (by simp [hw]), hx2⟩
    · have m1 := rfnum_meets (G := G) v.height
      have l1 : (be8 v.height).length = 8 := by simp
      have f1 : fitsS (x.length + 8) := fitS (by omega)
      have hw : IntKind.i64.wrap 3 = 3 := w64_id (by omega)
      have hx2 : x ++ be8 v.height = nums (List.take (2 + 1) [v.kind, v.epoch, v.height, v.round, v.src]) := by rw [hx]; simp [nums]
      generalize be8 v.height = y at *
      simp
      refine call_intro m1 ?_ ?_
      · simp
      simp [f1, l1]
      exact ⟨x ++ y, _, Weak.re (by simp [hw]), hx2⟩
    · have m1 := rfnum_meets (G := G) v.round
      have l1 : (be8 v.round).length = 8 := by simp
      have f1 : fitsS (x.length + 8) := fitS (by omega)
      have hw : IntKind.i64.wrap 4 = 4 := w64_id (by omega)
      have hx2 : x ++ be8 v.round = nums (List.take (3 + 1) [v.kind, v.epoch, v.height, v.round, v.src]) := by rw [hx]; simp [nums]
      generalize be8 v.round = y at *
      simp
      refine call_intro m1 ?_ ?_
      · simp
      simp [f1, l1]
      exact ⟨x ++ y, _, Weak.re (by simp [hw]), hx2⟩
    · have m1 := rfnum_meets (G := G) v.src
      have l1 : (be8 v.src).length = 8 := by simp
      have f1 : fitsS (x.length + 8) := fitS (by omega)
      have hw : IntKind.i64.wrap 5 = 5 := w64_id (by omega)
      have hx2 : x ++ be8 v.src = nums (List.take (4 + 1) [v.kind, v.epoch, v.height, v.round, v.src]) := by rw [hx]; simp [nums]
      generalize be8 v.src = y at *
      simp
      refine call_intro m1 ?_ ?_
      · simp
      simp [f1, l1]
      exact ⟨x ++ y, _, Weak.re (by simp [hw]), hx2⟩
  · intro x q hx
    have hxl : x.length = 40 := by rw [hx]; simp [nums_length]
    have f1 : fitsS (x.length + 32) := fitS (by omega)
    have hh : x ++ v.dg.bs = v.head := by rw [hx]; simp [Vote.head]
    simp
    refine call_intro m2 ?_ ?_
    · simp
    simp [f1, hh]
    refine post_end (.inr rfl) ?_
    simp
theorem rvsigns_meets (v : Vote) : Meets Tryd.prog Gt fn_r13_Signs [v.av] [] true (dv v.signs) [] := by
  refine meets_of_go mix k_r13_Signs ⟨by simp, by simp, by simp⟩ ?_
  have hb := v.head_len
  have m1 := rvhead_meets (G := Gt) v
  have m2 := rtext02_meets (bVote ++ v.head) (by rw [List.length_append]; simp [bVote]; omega)
  have f1 : fitsS (4 + v.head.length) := fitS (by omega)
  unfold Vote.signs
  generalize sha (bVote ++ v.head) = d at *
  have hc : (118 :: 111 :: 116 :: 101 :: v.head : Bytes) = bVote ++ v.head := rfl
  generalize v.head = x at *
  simp [Vote.av, dv]
  refine call_intro m1 ?_ ?_
  · simp [Vote.av, dv]
  simp [f1]
  refine call_intro m2 ?_ ?_
  · simp [hc]
  simp [dv]
  refine post_end (.inr rfl) ?_
  simp
attribute [local irreducible] Vote.signs
theorem rvright_meets (c : Conf) (v : Vote) (hn : c.ms.length ≤ 1000000) (hm : ∀ m ∈ c.ms, W64 m.height) (hv : W64 v.sig.leaf) : Meets Tryd.prog Gt fn_r13_Right [c.av, v.av] [] true (.v (.bool (rightV c v))) [] := by
  refine meets_of_go mix k_r13_Right ⟨by simp, by simp, by simp⟩ ?_
  have m1 := rplace_meets (G := Gt) c v.src hn
  rcases idxOf_case c.ms v.src with h | ⟨k, hk, h⟩
  · rw [rightV_none h]
    rw [h] at m1
    simp [Conf.av, Vote.av]
    refine call_intro m1 ?_ ?_
    · simp [Conf.av]
    simp
    refine post_end (.inr rfl) ?_
    simp
  · rw [rightV_some hk h]
    rw [h] at m1
    have hk0 : ¬ ((k : Int) < 0) := by omega
    have m2 := rvgood_meets (G := Gt) v
    have m3 := rvsigns_meets v
    have hh := hm _ (List.getElem_mem hk)
    have m4 := rkcheck_meets c.ms[k].root c.ms[k].height v.signs v.sig hh hv
    generalize checkK c.ms[k].root c.ms[k].height v.signs v.sig = b4 at *
    generalize v.signs = sg at *
    simp [Conf.av, Vote.av]
    refine call_intro m1 ?_ ?_
    · simp [Conf.av]
    simp [hk0]
    refine call_intro m2 ?_ ?_
    · simp [Vote.av]
    simp
    cases hg : v.good
    · simp [hg]
      refine post_end (.inr rfl) ?_
      simp
    by_cases he : v.epoch = c.epoch
    · simp [hg, eq_true he, hk, hk0, Mem.av]
      refine call_intro m3 ?_ ?_
      · simp [Vote.av]
      simp [dv]
      refine call_intro m4 ?_ ?_
      · simp [dv]
      simp
      refine post_end (.inr rfl) ?_
      simp
    · simp [hg, he]
      refine post_end (.inr rfl) ?_
      simp
end Go.Proofs.YtjlmpdbagmdbiaaDoor.WL

end
section
/-
  CHAPTER 09, 12: the reference: bytes of requests and blocks, a block's digest.
-/
namespace Go.Proofs.YtjlmpdbagmdbiaaDoor.WL
open Go
set_option maxHeartbeats 8000000
variable {G : Nat → Option AV}
attribute [local irreducible] sha comp hb

theorem rqb_meets (q : Req) (h : q.bytes.length ≤ 50000000) : Meets Tryd.prog G fn_r09_Bytes [q.av] [] true (.v (.string (mkS q.bytes))) [] := by
  refine meets_of_go mix k_r09_Bytes ⟨by simp, by simp, by simp⟩ ?_
  have hl := q.bytes_len
  have hb : q.bytes = nums [q.client, q.num, q.kind] ++ (txt q.key ++ (txt q.val ++ (txt q.old ++ (nums [q.ch.kind, q.ch.id, q.ch.new, q.ch.height] ++ q.ch.root.bs)))) := by simp [Req.bytes, txts]
  have m1 := rqnums_meets (G := G) [q.client, q.num, q.kind] (by simp)
  have m2 := rftext_meets (G := G) q.key (by omega)
  have m3 := rftext_meets (G := G) q.val (by omega)
  have m4 := rftext_meets (G := G) q.old (by omega)
  have m5 := rqnums_meets (G := G) [q.ch.kind, q.ch.id, q.ch.new, q.ch.height] (by simp)
  have m6 := rfdigest_meets (G := G) q.ch.root
  have l1 : (nums [q.client, q.num, q.kind]).length = 24 := by simp [nums_length]
  have l5 : (nums [q.ch.kind, q.ch.id, q.ch.new, q.ch.height]).length = 32 := by simp [nums_length]
  have l2 := txt_length q.key
  have l3 := txt_length q.val
  have l4 := txt_length q.old
  have f1 : fitsS (24 + (4 + q.key.length)) := fitS (by omega)
  have f2 : fitsS (24 + (4 + q.key.length) + (4 + q.val.length)) := fitS (by omega)
  have f3 : fitsS (24 + (4 + q.key.length + (4 + q.val.length)) + (4 + q.old.length)) := fitS (by omega)
  have f4 : fitsS (24 + (4 + q.key.length + (4 + q.val.length + (4 + q.old.length))) + 32) := fitS (by omega)
  have f5 : fitsS (24 + (4 + q.key.length + (4 + q.val.length + (4 + q.old.length + 32))) + 32) := fitS (by omega)
  rw [hb]
  generalize nums [q.client, q.num, q.kind] = y1 at *
  generalize nums [q.ch.kind, q.ch.id, q.ch.new, q.ch.height] = y5 at *
  generalize txt q.key = y2 at *
  generalize txt q.val = y3 at *
  generalize txt q.old = y4 at *
  simp [Req.av, Chg.av]
  refine call_intro m1 ?_ ?_
  · simp [I64_3]
  simp [I64_3]
  refine call_intro m2 ?_ ?_
  · simp
  simp [l1, l2, f1]
  refine call_intro m3 ?_ ?_
  · simp
  simp [l1, l2, l3, f2]
  refine call_intro m4 ?_ ?_
  · simp
  simp [l1, l2, l3, l4, f3]
  refine call_intro m5 ?_ ?_
  · simp [I64_4]
  simp [I64_4, l1, l2, l3, l4, l5, f4]
  refine call_intro m6 ?_ ?_
  · simp
  simp [l1, l2, l3, l4, l5, f5]
  refine post_end (.inr rfl) ?_
  simp
theorem rbb_meets (b : Blk) (h : b.bytes.length ≤ 50000000) (hn : b.qs.length ≤ 1000000) : Meets Tryd.prog G fn_r12_Bytes [b.avS] [] true (.v (.string (mkS b.bytes))) [] := by
  refine meets_of_go mix k_r12_Bytes ⟨by simp, by simp, by simp⟩ ?_
  have hlen := b.bytes_len
  have hb : b.bytes = b.head ++ reqsB b.qs := rfl
  have hh : be8 b.epoch ++ (be8 b.height ++ (b.prev.bs ++ (b.state.bs ++ (b.next.bs ++ be8 (b.qs.length : Int))))) = b.head := by simp [Blk.head, nums, flatD]
  have hhl := b.head_len
  rw [hb]
  have m1 := rfnum_meets (G := G) b.epoch
  have m2 := rfnum_meets (G := G) b.height
  have m3 := rfdigest_meets (G := G) b.prev
  have m4 := rfdigest_meets (G := G) b.state
  have m5 := rfdigest_meets (G := G) b.next
  have m6 := rfnum_meets (G := G) (b.qs.length : Int)
  have l1 : (be8 b.epoch).length = 8 := by simp
  have l2 : (be8 b.height).length = 8 := by simp
  have l6 : (be8 (b.qs.length : Int)).length = 8 := by simp
  generalize b.head = x1 at *
  generalize be8 b.epoch = y1 at *
  generalize be8 b.height = y2 at *
  generalize be8 (b.qs.length : Int) = y6 at *
  have f1 : fitsS (8 + 8) := fitS (by omega)
  have f2 : fitsS (8 + 8 + 32) := fitS (by omega)
  have f3 : fitsS (8 + 8 + 32 + 32) := fitS (by omega)
  have f4 : fitsS (8 + 8 + 32 + 32 + 32) := fitS (by omega)
  have f5 : fitsS (8 + 8 + 32 + 32 + 32 + 8) := fitS (by omega)
  simp [Blk.avS]
  refine call_intro m1 ?_ ?_
  · simp
  simp
  refine call_intro m2 ?_ ?_
  · simp
  simp [l1, l2, f1]
  refine call_intro m3 ?_ ?_
  · simp
  simp [l1, l2, f2]
  refine call_intro m4 ?_ ?_
  · simp
  simp [l1, l2, f3]
  refine call_intro m5 ?_ ?_
  · simp
  simp [l1, l2, f4]
  refine call_intro m6 ?_ ?_
  · simp
  simp [l1, l2, l6, f5, hh]
  obtain ⟨F, hF⟩ : ∃ F : Nat → Bytes, ∀ i, F i = x1 ++ reqsB (b.qs.take i) := ⟨_, fun _ => rfl⟩
  refine go_up b.qs.length (fun j (x : Bytes) => x = F j) (fun j x q => ⟨[(3, .v (.string (mkS x))), (31, .sl 42 (Reqs b.qs)), (32, .v (.int .i64 (b.qs.length : Nat))), (33, .v (.int .i64 (j : Nat)))], [], q + 1⟩) x1 _ (Weak.re (by simp)) (by rw [hF]; simp [reqsB]) ?_ ?_
  · intro j x q hj hx
    have hw : IntKind.i64.wrap ((j : Int) + 1) = ((j + 1 : Nat) : Int) := w64_succ (by omega)
    have ht := reqsB_take b.qs j hj
    have hle := reqsB_take_le b.qs (j + 1)
    rw [ht, List.length_append] at hle
    have m7 := rqb_meets (G := G) b.qs[j] (by omega)
    have hxl : x.length + b.qs[j].bytes.length ≤ 50000000 := by rw [hx, hF, List.length_append]; omega
    have f6 : fitsS (x.length + b.qs[j].bytes.length) := fitS (by omega)
    have hx2 : x ++ b.qs[j].bytes = F (j + 1) := by rw [hx, hF, hF, ht, List.append_assoc]
    generalize b.qs[j].bytes = y at *
    simp [hj, Req.av, Chg.av]
    refine call_intro m7 ?_ ?_
    · simp [Req.av, Chg.av]
    simp [f6, hw]
    exact ⟨x ++ y, _, Weak.re (by simp), hx2⟩
  · intro x q hx
    rw [hF, List.take_length] at hx
    subst hx
    simp
    refine post_end (.inr rfl) ?_
    simp
theorem rbdigest_meets (b : Blk) (h : b.bytes.length ≤ 40000000) (hn : b.qs.length ≤ 1000000) : Meets Tryd.prog Gt fn_r12_Digest [b.avS] [] true (dv b.dg) [] := by
  refine meets_of_go mix k_r12_Digest ⟨by simp, by simp, by simp⟩ ?_
  have m1 := rbb_meets (G := Gt) b (by omega) hn
  have m2 := rtext02_meets (bBlock ++ b.bytes) (by rw [List.length_append]; simp [bBlock]; omega)
  have f1 : fitsS (5 + b.bytes.length) := fitS (by omega)
  unfold Blk.dg
  generalize sha (bBlock ++ b.bytes) = d at *
  have hc : (98 :: 108 :: 111 :: 99 :: 107 :: b.bytes : Bytes) = bBlock ++ b.bytes := rfl
  generalize b.bytes = x at *
  simp [Blk.avS, dv]
  refine call_intro m1 ?_ ?_
  · simp [Blk.avS, dv]
  simp [f1]
  refine call_intro m2 ?_ ?_
  · simp [hc]
  simp [dv]
  refine post_end (.inr rfl) ?_
  simp
end Go.Proofs.YtjlmpdbagmdbiaaDoor.WL

end
section
/-
  CHAPTER 14: whether a word is right.
-/
namespace Go.Proofs.YtjlmpdbagmdbiaaDoor.WL
open Go
set_option maxHeartbeats 8000000
variable {G : Nat → Option AV}
attribute [local irreducible] sha comp hb checkK idxOf Vote.signs Vote.good rightV Conf.good Blk.good Blk.dg quorum

instance : Inhabited Vote := ⟨Vote.zero⟩
def lastSrc (vs : List Vote) : Nat → Int
  | 0 => 0
  | j + 1 => (vs[j]!).src
def voteOk (c : Conf) (b : Blk) (x : Cert) (j : Nat) : Bool :=
  decide (lastSrc x.votes j < (x.votes[j]!).src) && decide ((x.votes[j]!).kind = 2) && decide ((x.votes[j]!).height = b.height) && decide ((x.votes[j]!).round = x.round) && decide ((x.votes[j]!).dg = b.dg) && rightV c (x.votes[j]!)
def checkC (c : Conf) (b : Blk) (x : Cert) : Bool :=
  c.good && b.good && decide (b.epoch = c.epoch) && decide (quorum c.ms.length ≤ x.votes.length) && (List.range x.votes.length).all (voteOk c b x)
theorem checkC_no {c : Conf} {b : Blk} {x : Cert} {j : Nat} (h : j < x.votes.length) (hb : voteOk c b x j = false) : checkC c b x = false := by
  have : (List.range x.votes.length).all (voteOk c b x) = false := by
    rw [List.all_eq_false]
    exact ⟨j, List.mem_range.2 h, by simp [hb]⟩
  simp [checkC, this]
theorem checkC_yes {c : Conf} {b : Blk} {x : Cert} (h1 : c.good = true) (h2 : b.good = true) (h3 : b.epoch = c.epoch) (h4 : quorum c.ms.length ≤ x.votes.length) (h : ∀ j, j < x.votes.length → voteOk c b x j = true) : checkC c b x = true := by
  have : (List.range x.votes.length).all (voteOk c b x) = true := List.all_eq_true.2 fun j hj => h j (List.mem_range.1 hj)
  simp [checkC, this, h1, h2, h3, h4]
theorem Conf.good_ne {c : Conf} (h : c.good = true) : c.ms ≠ [] := by
  intro e
  simp [Conf.good, e] at h

theorem ccheck_meets (c : Conf) (b : Blk) (x : Cert) (hn : c.ms.length ≤ 1000000) (hm : ∀ m ∈ c.ms, W64 m.height) (hv : ∀ v ∈ x.votes, W64 v.sig.leaf) (hl : x.votes.length ≤ 1000000) (hb : b.bytes.length ≤ 50000000) (hq : b.qs.length ≤ 1000000) :
    Meets Tryd.prog Gt fn_cert_Check [c.av, b.avS, x.av] [] true (.v (.bool (checkC c b x))) [] := by
  refine meets_of_go mix k_cert_Check ⟨by simp, by simp, by simp⟩ ?_
  have m1 := cgood_meets (G := Gt) c
  have m2 := bgood_meets (G := Gt) b
  have m3 := cquorum_meets (G := Gt) c hn
  have m4 := bdigest_meets b hb hq
  cases h1 : c.good
  · rw [h1] at m1
    simp [Conf.av, Blk.avS, Cert.av, dv]
    refine call_intro m1 ?_ ?_
    · simp [Conf.av, dv]
    simp
    refine post_end (.inr rfl) ?_
    simp [checkC, h1]
  cases h2 : b.good
  · rw [h1] at m1
    rw [h2] at m2
    simp [Conf.av, Blk.avS, Cert.av, dv]
    refine call_intro m1 ?_ ?_
    · simp [Conf.av, dv]
    simp
    refine call_intro m2 ?_ ?_
    · simp [Blk.avS, dv]
    simp
    refine post_end (.inr rfl) ?_
    simp [checkC, h2]
  by_cases h3 : b.epoch = c.epoch
  case neg =>
    rw [h1] at m1
    rw [h2] at m2
    simp [Conf.av, Blk.avS, Cert.av, dv]
    refine call_intro m1 ?_ ?_
    · simp [Conf.av, dv]
    simp
    refine call_intro m2 ?_ ?_
    · simp [Blk.avS, dv]
    simp [h3]
    refine post_end (.inr rfl) ?_
    simp [checkC, h3]
  have h3' := eq_true h3
  by_cases h4 : quorum c.ms.length ≤ x.votes.length
  case neg =>
    have h4' : x.votes.length < quorum c.ms.length := by omega
    rw [h1] at m1
    rw [h2] at m2
    simp [Conf.av, Blk.avS, Cert.av, dv]
    refine call_intro m1 ?_ ?_
    · simp [Conf.av, dv]
    simp
    refine call_intro m2 ?_ ?_
    · simp [Blk.avS, dv]
    simp [h3']
    refine call_intro m3 ?_ ?_
    · simp [Conf.av, dv]
    simp [h4']
    refine post_end (.inr rfl) ?_
    simp [checkC, h4]
  have hno := @checkC_no c b x
  have hyes := checkC_yes h1 h2 h3 h4
  have hvo : ∀ j, voteOk c b x j = (decide (lastSrc x.votes j < (x.votes[j]!).src) && decide ((x.votes[j]!).kind = 2) && decide ((x.votes[j]!).height = b.height) && decide ((x.votes[j]!).round = x.round) && decide ((x.votes[j]!).dg = b.dg) && rightV c (x.votes[j]!)) := fun _ => rfl
  have hms := Conf.good_ne h1
  have m5 : ∀ v ∈ x.votes, Meets Tryd.prog Gt fn_vote_Right [c.av, v.av] [] true (.v (.bool (rightV c v))) [] := fun v hv' => vright_meets c v hms hm (hv v hv')
  have h4' : ¬ x.votes.length < quorum c.ms.length := by omega
  rw [h1] at m1
  rw [h2] at m2
  generalize checkC c b x = res at *
  obtain ⟨ok, hok⟩ : ∃ ok : Nat → Bool, ok = voteOk c b x := ⟨_, rfl⟩
  rw [← hok] at hno hyes hvo
  generalize b.dg = d at *
  generalize quorum c.ms.length = qn at *
  obtain ⟨R, hR⟩ : ∃ R : Vote → Bool, R = rightV c := ⟨_, rfl⟩
  rw [← hR] at hvo m5
  simp [Conf.av, Blk.avS, Cert.av, dv]
  refine call_intro m1 ?_ ?_
  · simp [Conf.av, dv]
  simp
  refine call_intro m2 ?_ ?_
  · simp [Blk.avS, dv]
  simp [h3']
  refine call_intro m3 ?_ ?_
  · simp [Conf.av, dv]
  simp [h4', h4]
  refine call_intro m4 ?_ ?_
  · simp [Blk.avS, dv]
  simp [dv]
  refine go_up x.votes.length (fun j (_ : Unit) => ∀ i, i < j → ok i = true) (fun j (_ : Unit) q => ⟨[(3, .ptr 3 q 0), (4, .ptr 4 q 0), (5, .ptr 5 q 0), (7, .ptr 7 q 0), (8, .v (.int .i64 (lastSrc x.votes j))), (37, .sl 41 (Votes x.votes)), (38, .v (.int .i64 (x.votes.length : Nat))), (39, .v (.int .i64 (j : Nat)))],
    [(3, .var q (.node [.v (.int .i64 c.epoch), .sl 34 (Mems c.ms)])), (4, .var q (.node [.v (.int .i64 b.epoch), .v (.int .i64 b.height), .arr 1 (B b.prev.bs), .arr 1 (B b.state.bs), .arr 1 (B b.next.bs), .sl 42 (Reqs b.qs)])), (5, .var q (.node [.v (.int .i64 x.round), .sl 41 (Votes x.votes)])), (7, .var q (.arr 1 (B d.bs)))], q + 1⟩) () _ (Weak.re (by simp [lastSrc])) (by intro i h; omega) ?_ ?_
  · intro j _ q hj hx
    have hw : IntKind.i64.wrap ((j : Int) + 1) = ((j + 1 : Nat) : Int) := w64_succ (by omega)
    obtain ⟨v, hv'⟩ : ∃ v, x.votes[j] = v := ⟨_, rfl⟩
    have hvb : x.votes[j]! = v := by simp [hj, hv']
    have e := hvo j
    rw [hvb] at e
    have m6 := m5 v (by rw [← hv']; exact List.getElem_mem hj)
    have hf : ok j = false → res = false := hno hj
    have hls : lastSrc x.votes (j+1) = v.src := by simp [lastSrc, hvb]
    generalize lastSrc x.votes j = ls at *
    have hnext : ok j = true → ∀ i, i < j + 1 → ok i = true := by
      intro h i hi
      rcases (show i < j ∨ i = j by omega) with h1 | rfl
      · exact hx i h1
      · exact h
    by_cases c1 : v.src ≤ ls
    · have hr := hf (by rw [e]; simp; omega)
      simp [hj, hv', Vote.av, dv, c1]
      refine post_end (.inr rfl) ?_
      simp [hr]
    by_cases c2 : v.kind = 2
    case neg =>
      have hr := hf (by rw [e]; simp [c2])
      simp [hj, hv', Vote.av, dv, c1, c2]
      refine post_end (.inr rfl) ?_
      simp [hr]
    by_cases c3 : v.height = b.height
    case neg =>
      have hr := hf (by rw [e]; simp [c3])
      simp [hj, hv', Vote.av, dv, c1, eq_true c2, c3]
      refine post_end (.inr rfl) ?_
      simp [hr]
    by_cases c4 : v.round = x.round
    case neg =>
      have hr := hf (by rw [e]; simp [c4])
      simp [hj, hv', Vote.av, dv, c1, eq_true c2, eq_true c3, c4]
      refine post_end (.inr rfl) ?_
      simp [hr]
    by_cases c5 : v.dg = d
    case neg =>
      have hr := hf (by rw [e]; simp [c5])
      simp [hj, hv', Vote.av, dv, c1, eq_true c2, eq_true c3, eq_true c4, c5]
      refine post_end (.inr rfl) ?_
      simp [hr]
    simp [hj, hv', Vote.av, dv, c1, eq_true c2, eq_true c3, eq_true c4, eq_true c5]
    refine call_intro m6 ?_ ?_
    · simp [Conf.av, Vote.av, dv]
    simp
    cases hb' : R v
    · have hr := hf (by rw [e]; simp [hb'])
      simp
      refine post_end (.inr rfl) ?_
      simp [hr]
    · have hok' : ok j = true := by
        rw [e, hb']
        simp [c2, c3, c4, c5]
        omega
      simp [hw]
      exact ⟨(), _, Weak.re (by simp [hls]), hnext hok'⟩
  · intro _ q hx
    have hr := hyes hx
    simp
    refine post_end (.inr rfl) ?_
    simp [hr]
end Go.Proofs.YtjlmpdbagmdbiaaDoor.WL

end
section
/-
  CHAPTER 14: the reference: whether a word is right.
-/
namespace Go.Proofs.YtjlmpdbagmdbiaaDoor.WL
open Go
set_option maxHeartbeats 8000000
variable {G : Nat → Option AV}
theorem rightV_src {c : Conf} {v : Vote} (h : rightV c v = true) : 0 < v.src := by
  unfold rightV at h
  simp only [Bool.and_eq_true] at h
  have := h.1.1.2
  unfold Vote.good at this
  simp only [Bool.and_eq_true, decide_eq_true_eq] at this
  omega
attribute [local irreducible] sha comp hb checkK idxOf Vote.signs Vote.good rightV Conf.good Blk.good Blk.dg quorum

theorem rccheck_meets (c : Conf) (b : Blk) (x : Cert) (hn : c.ms.length ≤ 1000000) (hm : ∀ m ∈ c.ms, W64 m.height) (hv : ∀ v ∈ x.votes, W64 v.sig.leaf) (hl : x.votes.length ≤ 1000000) (hb : b.bytes.length ≤ 40000000) (hq : b.qs.length ≤ 1000000) :
    Meets Tryd.prog Gt fn_r14_Check [c.av, b.avS, x.av] [] true (.v (.bool (checkC c b x))) [] := by
  refine meets_of_go mix k_r14_Check ⟨by simp, by simp, by simp⟩ ?_
  have m1 := rgood08_meets (G := Gt) c
  have m2 := rbgood_meets (G := Gt) b
  have m3 := rquorum_meets (G := Gt) c.ms.length hn
  have m4 := rbdigest_meets b hb hq
  cases h1 : c.good
  · rw [h1] at m1
    simp [Conf.av, Blk.avS, Cert.av, dv]
    refine call_intro m1 ?_ ?_
    · simp [Conf.av, dv]
    simp
    refine post_end (.inr rfl) ?_
    simp [checkC, h1]
  cases h2 : b.good
  · rw [h1] at m1
    rw [h2] at m2
    simp [Conf.av, Blk.avS, Cert.av, dv]
    refine call_intro m1 ?_ ?_
    · simp [Conf.av, dv]
    simp
    refine call_intro m2 ?_ ?_
    · simp [Blk.avS, dv]
    simp
    refine post_end (.inr rfl) ?_
    simp [checkC, h2]
  by_cases h3 : b.epoch = c.epoch
  case neg =>
    rw [h1] at m1
    rw [h2] at m2
    simp [Conf.av, Blk.avS, Cert.av, dv]
    refine call_intro m1 ?_ ?_
    · simp [Conf.av, dv]
    simp
    refine call_intro m2 ?_ ?_
    · simp [Blk.avS, dv]
    simp [h3]
    refine post_end (.inr rfl) ?_
    simp [checkC, h3]
  have h3' := eq_true h3
  by_cases h4 : quorum c.ms.length ≤ x.votes.length
  case neg =>
    have h4' : x.votes.length < quorum c.ms.length := by omega
    rw [h1] at m1
    rw [h2] at m2
    simp [Conf.av, Blk.avS, Cert.av, dv]
    refine call_intro m1 ?_ ?_
    · simp [Conf.av, dv]
    simp
    refine call_intro m2 ?_ ?_
    · simp [Blk.avS, dv]
    simp [h3']
    refine call_intro m3 ?_ ?_
    · simp [Conf.av, dv]
    simp [h4']
    refine post_end (.inr rfl) ?_
    simp [checkC, h4]
  have hno := @checkC_no c b x
  have hyes := checkC_yes h1 h2 h3 h4
  have hvo : ∀ j, voteOk c b x j = (decide (lastSrc x.votes j < (x.votes[j]!).src) && decide ((x.votes[j]!).kind = 2) && decide ((x.votes[j]!).height = b.height) && decide ((x.votes[j]!).round = x.round) && decide ((x.votes[j]!).dg = b.dg) && rightV c (x.votes[j]!)) := fun _ => rfl
  have hsrc := @rightV_src c
  have m5 : ∀ v ∈ x.votes, Meets Tryd.prog Gt fn_r13_Right [c.av, v.av] [] true (.v (.bool (rightV c v))) [] := fun v hv' => rvright_meets c v hn hm (hv v hv')
  have h4' : ¬ x.votes.length < quorum c.ms.length := by omega
  rw [h1] at m1
  rw [h2] at m2
  generalize checkC c b x = res at *
  obtain ⟨ok, hok⟩ : ∃ ok : Nat → Bool, ok = voteOk c b x := ⟨_, rfl⟩
  rw [← hok] at hno hyes hvo
  generalize b.dg = d at *
  generalize quorum c.ms.length = qn at *
  obtain ⟨R, hR⟩ : ∃ R : Vote → Bool, R = rightV c := ⟨_, rfl⟩
  rw [← hR] at hvo m5 hsrc
  simp [Conf.av, Blk.avS, Cert.av, dv]
  refine call_intro m1 ?_ ?_
  · simp [Conf.av, dv]
  simp
  refine call_intro m2 ?_ ?_
  · simp [Blk.avS, dv]
  simp [h3']
  refine call_intro m3 ?_ ?_
  · simp [Conf.av, dv]
  simp [h4', h4]
  refine go_up x.votes.length (fun j (_ : Unit) => ∀ i, i < j → ok i = true) (fun j (_ : Unit) q => ⟨[(3, .ptr 3 q 0), (4, .ptr 4 q 0), (5, .ptr 5 q 0), (35, .sl 41 (Votes x.votes)), (36, .v (.int .i64 (x.votes.length : Nat))), (37, .v (.int .i64 (j : Nat)))],
    [(3, .var q (.node [.v (.int .i64 c.epoch), .sl 34 (Mems c.ms)])), (4, .var q (.node [.v (.int .i64 b.epoch), .v (.int .i64 b.height), .arr 1 (B b.prev.bs), .arr 1 (B b.state.bs), .arr 1 (B b.next.bs), .sl 42 (Reqs b.qs)])), (5, .var q (.node [.v (.int .i64 x.round), .sl 41 (Votes x.votes)]))], q + 1⟩) () _ (Weak.re (by simp)) (by intro i h; omega) ?_ ?_
  · intro j _ q hj hx
    have hw : IntKind.i64.wrap ((j : Int) + 1) = ((j + 1 : Nat) : Int) := w64_succ (by omega)
    have hs : IntKind.i64.wrap ((j : Int) - 1) = (j : Int) - 1 := w64_id (by omega)
    obtain ⟨v, hv'⟩ : ∃ v, x.votes[j] = v := ⟨_, rfl⟩
    have hvb : x.votes[j]! = v := by simp [hj, hv']
    have e := hvo j
    rw [hvb] at e
    have m6 := m5 v (by rw [← hv']; exact List.getElem_mem hj)
    have hf : ok j = false → res = false := hno hj
    have hnext : ok j = true → ∀ i, i < j + 1 → ok i = true := by
      intro h i hi
      rcases (show i < j ∨ i = j by omega) with h1 | rfl
      · exact hx i h1
      · exact h
    by_cases c2 : v.kind = 2
    case neg =>
      have hr := hf (by rw [e]; simp [c2])
      simp [hj, hv', Vote.av, dv, c2]
      refine post_end (.inr rfl) ?_
      simp [hr]
    by_cases c4 : v.round = x.round
    case neg =>
      have hr := hf (by rw [e]; simp [c4])
      simp [hj, hv', Vote.av, dv, eq_true c2, c4]
      refine post_end (.inr rfl) ?_
      simp [hr]
    by_cases c3 : v.height = b.height
    case neg =>
      have hr := hf (by rw [e]; simp [c3])
      simp [hj, hv', Vote.av, dv, eq_true c2, eq_true c4, c3]
      refine post_end (.inr rfl) ?_
      simp [hr]
    by_cases c5 : v.dg = d
    case neg =>
      have hr := hf (by rw [e]; simp [c5])
      simp [hj, hv', Vote.av, dv, eq_true c2, eq_true c3, eq_true c4]
      refine call_intro m4 ?_ ?_
      · simp [Blk.avS, dv]
      simp [dv, c5]
      refine post_end (.inr rfl) ?_
      simp [hr]
    simp [hj, hv', Vote.av, dv, eq_true c2, eq_true c3, eq_true c4]
    refine call_intro m4 ?_ ?_
    · simp [Blk.avS, dv]
    simp [dv, eq_true c5]
    rcases Nat.eq_zero_or_pos j with hj0 | hj1
    · subst hj0
      simp
      refine call_intro m6 ?_ ?_
      · simp [Conf.av, Vote.av, dv]
      simp
      have hw1 : IntKind.i64.wrap 1 = 1 := w64_id (by omega)
      cases hb' : R v
      · have hr := hf (by rw [e]; simp [hb'])
        simp
        refine post_end (.inr rfl) ?_
        simp [hr]
      · have hs0 := hsrc hb'
        have hok' : ok 0 = true := by
          have hl0 : lastSrc x.votes 0 = 0 := rfl
          rw [e, hb', hl0]
          simp [c2, c3, c4, c5, hs0]
        simp [hw1]
        exact ⟨(), _, Weak.re (by simp), hnext hok'⟩
    · obtain ⟨k, rfl⟩ : ∃ k, j = k + 1 := ⟨j - 1, by omega⟩
      obtain ⟨u, hu⟩ : ∃ u, x.votes[k] = u := ⟨_, rfl⟩
      have hub : x.votes[k]! = u := by simp [show k < x.votes.length by omega, hu]
      have hls : lastSrc x.votes (k + 1) = u.src := by simp [lastSrc, hub]
      rw [hls] at e
      have hs' : IntKind.i64.wrap (k : Int) = (k : Int) := w64_id (by omega)
      have hk1 : k < x.votes.length := by omega
      have hk2 : (k : Int) + 1 - 1 = k := by omega
      have hk3 : (0 : Int) < (k : Int) + 1 := by omega
      have hw2 : IntKind.i64.wrap ((k : Int) + 1 + 1) = (k : Int) + 1 + 1 := w64_id (by omega)
      by_cases c1 : v.src ≤ u.src
      · have hr := hf (by rw [e]; simp; omega)
        simp [hk2, hs', hk1, hk3, hu, Vote.av, dv, c1]
        refine post_end (.inr rfl) ?_
        simp [hr]
      simp [hk2, hs', hk1, hk3, hu, Vote.av, dv, c1]
      refine call_intro m6 ?_ ?_
      · simp [Conf.av, Vote.av, dv]
      simp
      cases hb' : R v
      · have hr := hf (by rw [e]; simp [hb'])
        simp
        refine post_end (.inr rfl) ?_
        simp [hr]
      · have hok' : ok (k + 1) = true := by
          rw [e, hb']
          simp [c2, c3, c4, c5]
          omega
        simp [hw2]
        exact ⟨(), _, Weak.re (by simp), hnext hok'⟩
  · intro _ q hx
    have hr := hyes hx
    simp
    refine post_end (.inr rfl) ?_
    simp [hr]
end Go.Proofs.YtjlmpdbagmdbiaaDoor.WL

end
section
/-
  CHAPTER 15: one link.
-/
namespace Go.Proofs.YtjlmpdbagmdbiaaDoor.WL
open Go
set_option maxHeartbeats 8000000
variable {G : Nat → Option AV}

def stepK (c : Conf) (h : Int) (l : Lnk) : Int :=
  if l.blk.height ≤ h ∨ l.conf.good = false ∨ l.conf.epoch ≤ c.epoch then 12
  else if checkC c l.blk l.cert = false then 10
  else if l.conf.dg = l.blk.next then 0 else 13
structure Lnk.Tame (c : Conf) (l : Lnk) : Prop where
  cms : c.ms.length ≤ 1000
  lms : l.conf.ms.length ≤ 1000
  heights : ∀ m ∈ c.ms, W64 m.height
  leaves : ∀ v ∈ l.cert.votes, W64 v.sig.leaf
  votes : l.cert.votes.length ≤ 1000000
  bytes : l.blk.bytes.length ≤ 40000000
  qs : l.blk.qs.length ≤ 1000000
attribute [local irreducible] sha comp hb checkK idxOf Vote.signs Vote.good rightV Conf.good Blk.good Blk.dg quorum checkC Conf.dg

theorem step_meets (c : Conf) (h : Int) (l : Lnk) (ht : l.Tame c) : Meets Tryd.prog Gt fn_chain_Step [c.av, .v (.int .i64 h), l.av] [] true (.v (.int .i64 (stepK c h l))) [] := by
  refine meets_of_go mix k_chain_Step ⟨by simp, by simp, by simp⟩ ?_
  have m1 := cgood_meets (G := Gt) l.conf
  have m2 := ccheck_meets c l.blk l.cert (by have := ht.cms; omega) ht.heights ht.leaves ht.votes (by have := ht.bytes; omega) ht.qs
  have m3 := cdigest_meets l.conf ht.lms
  unfold stepK
  by_cases c1 : l.blk.height ≤ h
  · simp [Conf.av, Lnk.av, Blk.avS, dv, c1]
    refine post_end (.inr rfl) ?_
    simp
  cases h2 : l.conf.good
  · rw [h2] at m1
    simp [Conf.av, Lnk.av, Blk.avS, dv, c1]
    refine call_intro m1 ?_ ?_
    · simp [Conf.av]
    simp
    refine post_end (.inr rfl) ?_
    simp
  rw [h2] at m1
  by_cases c3 : l.conf.epoch ≤ c.epoch
  · simp [Conf.av, Lnk.av, Blk.avS, dv, c1]
    refine call_intro m1 ?_ ?_
    · simp [Conf.av]
    simp [c3]
    refine post_end (.inr rfl) ?_
    simp
  cases h4 : checkC c l.blk l.cert
  · rw [h4] at m2
    simp [Conf.av, Lnk.av, Blk.avS, dv, c1]
    refine call_intro m1 ?_ ?_
    · simp [Conf.av]
    simp [c3]
    refine call_intro m2 ?_ ?_
    · simp [Conf.av, Blk.avS, dv]
    simp
    refine post_end (.inr rfl) ?_
    simp
  rw [h4] at m2
  generalize l.conf.dg = d at *
  by_cases c5 : d = l.blk.next
  · simp [Conf.av, Lnk.av, Blk.avS, dv, c1]
    refine call_intro m1 ?_ ?_
    · simp [Conf.av]
    simp [c3]
    refine call_intro m2 ?_ ?_
    · simp [Conf.av, Blk.avS, dv]
    simp
    refine call_intro m3 ?_ ?_
    · simp [Conf.av]
    simp [dv, eq_true c5]
    refine post_end (.inr rfl) ?_
    simp [c5]
  · simp [Conf.av, Lnk.av, Blk.avS, dv, c1]
    refine call_intro m1 ?_ ?_
    · simp [Conf.av]
    simp [c3]
    refine call_intro m2 ?_ ?_
    · simp [Conf.av, Blk.avS, dv]
    simp
    refine call_intro m3 ?_ ?_
    · simp [Conf.av]
    simp [dv, c5]
    refine post_end (.inr rfl) ?_
    simp [c5]
theorem rstep_meets (c : Conf) (h : Int) (l : Lnk) (ht : l.Tame c) : Meets Tryd.prog Gt fn_r15_Step [c.av, .v (.int .i64 h), l.av] [] true (.v (.int .i64 (stepK c h l))) [] := by
  refine meets_of_go mix k_r15_Step ⟨by simp, by simp, by simp⟩ ?_
  have m1 := rgood08_meets (G := Gt) l.conf
  have m2 := rccheck_meets c l.blk l.cert (by have := ht.cms; omega) ht.heights ht.leaves ht.votes ht.bytes ht.qs
  have m3 := rcdigest_meets l.conf (by have := ht.lms; omega)
  unfold stepK
  by_cases c1 : l.blk.height ≤ h
  · simp [Conf.av, Lnk.av, Blk.avS, dv, c1]
    refine post_end (.inr rfl) ?_
    simp
  cases h2 : l.conf.good
  · rw [h2] at m1
    simp [Conf.av, Lnk.av, Blk.avS, dv, c1]
    refine call_intro m1 ?_ ?_
    · simp [Conf.av]
    simp
    refine post_end (.inr rfl) ?_
    simp
  rw [h2] at m1
  by_cases c3 : l.conf.epoch ≤ c.epoch
  · simp [Conf.av, Lnk.av, Blk.avS, dv, c1]
    refine call_intro m1 ?_ ?_
    · simp [Conf.av]
    simp [c3]
    refine post_end (.inr rfl) ?_
    simp
  cases h4 : checkC c l.blk l.cert
  · rw [h4] at m2
    simp [Conf.av, Lnk.av, Blk.avS, dv, c1]
    refine call_intro m1 ?_ ?_
    · simp [Conf.av]
    simp [c3]
    refine call_intro m2 ?_ ?_
    · simp [Conf.av, Blk.avS, dv]
    simp
    refine post_end (.inr rfl) ?_
    simp
  rw [h4] at m2
  generalize l.conf.dg = d at *
  by_cases c5 : d = l.blk.next
  · simp [Conf.av, Lnk.av, Blk.avS, dv, c1]
    refine call_intro m1 ?_ ?_
    · simp [Conf.av]
    simp [c3]
    refine call_intro m2 ?_ ?_
    · simp [Conf.av, Blk.avS, dv]
    simp
    refine call_intro m3 ?_ ?_
    · simp [Conf.av]
    simp [dv, eq_true c5]
    refine post_end (.inr rfl) ?_
    simp [c5]
  · simp [Conf.av, Lnk.av, Blk.avS, dv, c1]
    refine call_intro m1 ?_ ?_
    · simp [Conf.av]
    simp [c3]
    refine call_intro m2 ?_ ?_
    · simp [Conf.av, Blk.avS, dv]
    simp
    refine call_intro m3 ?_ ?_
    · simp [Conf.av]
    simp [dv, c5]
    refine post_end (.inr rfl) ?_
    simp [c5]
end Go.Proofs.YtjlmpdbagmdbiaaDoor.WL

end
section
/-
  CHAPTER 15: a chain.
-/
namespace Go.Proofs.YtjlmpdbagmdbiaaDoor.WL
open Go
set_option maxHeartbeats 8000000
variable {G : Nat → Option AV}

instance : Inhabited Lnk := ⟨Lnk.zero⟩
/-- Along the links: the last configuration, how many lead, what is wrong. -/
def runK : Conf → Int → List Lnk → Nat → Conf × Nat × Int
  | c, _, [], i => (c, i, 0)
  | c, h, l :: ls, i => if stepK c h l = 0 then runK l.conf l.blk.height ls (i + 1) else (Conf.zero, i, stepK c h l)
def checkL (c : Conf) (ls : List Lnk) : Conf × Nat × Int := if c.good = false then (Conf.zero, 0, 1) else if 1024 < ls.length then (Conf.zero, 0, 11) else runK c 0 ls 0
def chAv (r : Conf × Nat × Int) : AV := .tup [r.1.av, .v (.int .i64 (r.2.1 : Nat)), .v (.int .i64 r.2.2)]
structure Tames (c : Conf) (ls : List Lnk) : Prop where
  few : ls.length ≤ 1000
  cms : c.ms.length ≤ 1000
  heights : ∀ m ∈ c.ms, W64 m.height
  links : ∀ l ∈ ls, l.conf.ms.length ≤ 1000 ∧ (∀ m ∈ l.conf.ms, W64 m.height) ∧ (∀ v ∈ l.cert.votes, W64 v.sig.leaf) ∧ l.cert.votes.length ≤ 1000000 ∧ l.blk.bytes.length ≤ 40000000 ∧ l.blk.qs.length ≤ 1000000
def Conf.calm (c : Conf) : Prop := c.ms.length ≤ 1000 ∧ ∀ m ∈ c.ms, W64 m.height
theorem Tames.tame {c d : Conf} {ls : List Lnk} {l : Lnk} (h : Tames c ls) (hl : l ∈ ls) (hd : d.calm) : l.Tame d := by
  obtain ⟨h1, h2, h3, h4, h5, h6⟩ := h.links l hl
  exact ⟨hd.1, h1, hd.2, h3, h4, h5, h6⟩
theorem Tames.calm {c : Conf} {ls : List Lnk} {l : Lnk} (h : Tames c ls) (hl : l ∈ ls) : l.conf.calm := by
  obtain ⟨h1, h2, _⟩ := h.links l hl
  exact ⟨h1, h2⟩
theorem run_step {c : Conf} {h : Int} {ls : List Lnk} {j : Nat} (hj : j < ls.length) : runK c h (ls.drop j) j = if stepK c h ls[j] = 0 then runK (ls[j]).conf (ls[j]).blk.height (ls.drop (j + 1)) (j + 1) else (Conf.zero, j, stepK c h ls[j]) := by
  rw [List.drop_eq_getElem_cons hj]
  rfl
attribute [local irreducible] sha comp hb checkK idxOf Vote.signs Vote.good rightV Conf.good Blk.good Blk.dg quorum checkC Conf.dg stepK runK

theorem chcheck_meets (c : Conf) (ls : List Lnk) (ht : Tames c ls) : Meets Tryd.prog Gt fn_chain_Check [c.av, .sl 103 (Lnks ls)] [] false (chAv (checkL c ls)) [] := by
  refine meets_of_go mix k_chain_Check ⟨by simp, by simp [chAv], by simp⟩ ?_
  have m1 := cgood_meets (G := Gt) c
  unfold checkL
  cases h1 : c.good
  · rw [h1] at m1
    simp [Conf.av]
    refine call_intro m1 ?_ ?_
    · simp [Conf.av]
    simp
    refine post_end (.inr rfl) ?_
    simp [chAv, Conf.av, Conf.zero]
  rw [h1] at m1
  have hfew := ht.few
  have c2 : ¬ (1024 : Int) < (ls.length : Nat) := by omega
  have c3 : ¬ 1024 < ls.length := by omega
  rw [if_neg (by simp), if_neg c3]
  obtain ⟨res, hres⟩ : ∃ res, runK c 0 ls 0 = res := ⟨_, rfl⟩
  rw [hres]
  simp
  refine call_intro m1 ?_ ?_
  · simp
  simp [c2]
  refine go_up ls.length (fun j (p : Conf × Int) => runK p.1 p.2 (ls.drop j) j = res ∧ p.1.calm) (fun j p q => ⟨[(1, .sl 103 (Lnks ls)), (4, .ptr 4 q 0), (7, .ptr 7 q 0), (8, .v (.int .i64 p.2)), (21, .sl 103 (Lnks ls)), (22, .v (.int .i64 (ls.length : Nat))), (23, .v (.int .i64 (j : Nat)))],
    [(4, .var q (.node [.v (.int .i64 0), .v (.slice none 0 0)])), (7, .var q p.1.av)], q + 1⟩) (c, 0) _ (Weak.re (by simp)) ⟨by simpa using hres, ht.cms, ht.heights⟩ ?_ ?_
  · rintro j ⟨d, h⟩ q hj ⟨hr, hcalm⟩
    have hw : IntKind.i64.wrap ((j : Int) + 1) = ((j + 1 : Nat) : Int) := w64_succ (by omega)
    obtain ⟨l, hl⟩ : ∃ l, ls[j] = l := ⟨_, rfl⟩
    have hmem : l ∈ ls := by rw [← hl]; exact List.getElem_mem hj
    have m2 := step_meets d h l (ht.tame hmem hcalm)
    have hc2 := ht.calm hmem
    dsimp only at hr
    rw [run_step hj, hl] at hr
    generalize stepK d h l = e at *
    simp [hj, hl]
    refine call_intro m2 ?_ ?_
    · simp
    simp [Lnk.av, Blk.avS]
    by_cases he : e = 0
    · rw [if_pos he] at hr
      simp [eq_true he, hw]
      exact ⟨(l.conf, l.blk.height), _, Weak.re (by simp), hr, hc2⟩
    · rw [if_neg he] at hr
      subst hr
      simp [he]
      refine post_end (.inr rfl) ?_
      simp [chAv, Conf.av, Conf.zero]
  · rintro ⟨d, h⟩ q ⟨hr, hcalm⟩
    have hcl : d.ms.length ≤ 1000 := hcalm.1
    have hf : fitsB d.ms.length 48 := fits (by omega) (by omega)
    have hr2 : res = (d, ls.length, 0) := by
      rw [← hr, List.drop_length]
      unfold runK
      rfl
    subst hr2
    simp [Conf.av, hf]
    refine post_end (.inr rfl) ?_
    simp [chAv, Conf.av]
end Go.Proofs.YtjlmpdbagmdbiaaDoor.WL

end
section
/-
  CHAPTER 15: the reference's chain.
-/
namespace Go.Proofs.YtjlmpdbagmdbiaaDoor.WL
open Go
set_option maxHeartbeats 8000000
variable {G : Nat → Option AV}
attribute [local irreducible] sha comp hb checkK idxOf Vote.signs Vote.good rightV Conf.good Blk.good Blk.dg quorum checkC Conf.dg stepK runK

theorem rchcheck_meets (c : Conf) (ls : List Lnk) (ht : Tames c ls) : Meets Tryd.prog Gt fn_r15_Check [c.av, .sl 103 (Lnks ls)] [] false (chAv (checkL c ls)) [] := by
  refine meets_of_go mix k_r15_Check ⟨by simp, by simp [chAv], by simp⟩ ?_
  have m1 := rgood08_meets (G := Gt) c
  unfold checkL
  cases h1 : c.good
  · rw [h1] at m1
    simp [Conf.av]
    refine call_intro m1 ?_ ?_
    · simp [Conf.av]
    simp
    refine post_end (.inr rfl) ?_
    simp [chAv, Conf.av, Conf.zero]
  rw [h1] at m1
  have hfew := ht.few
  have c2 : ¬ (1024 : Int) < (ls.length : Nat) := by omega
  have c3 : ¬ 1024 < ls.length := by omega
  rw [if_neg (by simp), if_neg c3]
  obtain ⟨res, hres⟩ : ∃ res, runK c 0 ls 0 = res := ⟨_, rfl⟩
  rw [hres]
  simp
  refine call_intro m1 ?_ ?_
  · simp
  simp [c2]
  refine go_up ls.length (fun j (p : Conf × Int) => runK p.1 p.2 (ls.drop j) j = res ∧ p.1.calm) (fun j p q => ⟨[(1, .sl 103 (Lnks ls)), (2, .ptr 2 q 0), (4, .ptr 4 q 0), (7, .v (.int .i64 p.2)), (19, .sl 103 (Lnks ls)), (20, .v (.int .i64 (ls.length : Nat))), (21, .v (.int .i64 (j : Nat)))],
    [(2, .var q p.1.av), (4, .var q (.node [.v (.int .i64 0), .v (.slice none 0 0)]))], q + 1⟩) (c, 0) _ (Weak.re (by simp)) ⟨by simpa using hres, ht.cms, ht.heights⟩ ?_ ?_
  · rintro j ⟨d, h⟩ q hj ⟨hr, hcalm⟩
    have hw : IntKind.i64.wrap ((j : Int) + 1) = ((j + 1 : Nat) : Int) := w64_succ (by omega)
    obtain ⟨l, hl⟩ : ∃ l, ls[j] = l := ⟨_, rfl⟩
    have hmem : l ∈ ls := by rw [← hl]; exact List.getElem_mem hj
    have m2 := rstep_meets d h l (ht.tame hmem hcalm)
    have hc2 := ht.calm hmem
    dsimp only at hr
    rw [run_step hj, hl] at hr
    generalize stepK d h l = e at *
    simp [hj, hl]
    refine call_intro m2 ?_ ?_
    · simp
    simp [Lnk.av, Blk.avS]
    by_cases he : e = 0
    · rw [if_pos he] at hr
      simp [eq_true he, hw]
      exact ⟨(l.conf, l.blk.height), _, Weak.re (by simp), hr, hc2⟩
    · rw [if_neg he] at hr
      subst hr
      simp [he]
      refine post_end (.inr rfl) ?_
      simp [chAv, Conf.av, Conf.zero]
  · rintro ⟨d, h⟩ q ⟨hr, hcalm⟩
    have hr2 : res = (d, ls.length, 0) := by
      rw [← hr, List.drop_length]
      unfold runK
      rfl
    subst hr2
    simp [Conf.av]
    refine post_end (.inr rfl) ?_
    simp [chAv, Conf.av]
end Go.Proofs.YtjlmpdbagmdbiaaDoor.WL

end
section
/-
  CHAPTER 05: walks of laws.
-/
namespace Go.Proofs.YtjlmpdbagmdbiaaDoor.WL
open Go
set_option maxHeartbeats 4000000
attribute [local irreducible] comp hb sha leafD pairD secD shutD wholeD pubD ofD

def Dg.one (b : UInt8) : Dg := ⟨b :: zeros 31, by simp⟩
attribute [local irreducible] Dg.one

def Sig.greatF (s : Sig) : Bool := decide (200 < s.op.length) || decide (200 < s.sh.length) || decide (200 < s.path.length)
end Go.Proofs.YtjlmpdbagmdbiaaDoor.WL

end
section
/-
  CHAPTER 14: the laws' first question, and how great an input is.
-/
namespace Go.Proofs.YtjlmpdbagmdbiaaDoor.WL
open Go
set_option maxHeartbeats 8000000
variable {G : Nat → Option AV}

attribute [local irreducible] comp hb sha leafD pairD secD shutD wholeD pubD ofD Dg.one

def Blk.h1 : Blk := ⟨0, 1, Dg.zero, Dg.zero, Dg.zero, []⟩
end Go.Proofs.YtjlmpdbagmdbiaaDoor.WL

end
section
/-
  CHAPTER 12: walks of laws.
-/
namespace Go.Proofs.YtjlmpdbagmdbiaaDoor.WL
open Go
set_option maxHeartbeats 4000000
variable {G : Nat → Option AV}

def Blk.one : Blk := ⟨0, 1, Dg.zero, Dg.zero, Dg.zero, []⟩
end Go.Proofs.YtjlmpdbagmdbiaaDoor.WL

end
section
/-
  CHAPTER 12: walks of laws: reading.
-/
namespace Go.Proofs.YtjlmpdbagmdbiaaDoor.WL
open Go
set_option maxHeartbeats 4000000
variable {G : Nat → Option AV}

theorem great_no {b : Blk} {m : Nat} (h : b.great m = false) : b.qs.length ≤ 40 ∧ (reqsB b.qs).length ≤ m := by
  simp only [Blk.great, Bool.or_eq_false_iff, decide_eq_false_iff_not] at h
  omega
end Go.Proofs.YtjlmpdbagmdbiaaDoor.WL

end
