/- Texts put together: S14d, S03c, S14g, S04c, S05c, S14e, S14a, S05d, S13r. -/
import Derived.Test.YtjlmpdbagmdbiaaDoorWm10
section
/-
  CHAPTER 08, 13: quorums, digests, whether a vote is right.
-/
namespace Go.Proofs.YtjlmpdbagmdbiaaDoor.WL
open Go
set_option maxHeartbeats 4000000
variable {G : Nat → Option AV}
attribute [local irreducible] sha comp hb checkK

theorem faults_int {n : Nat} : (if (n : Int) - 1 < 0 then 0 else (n : Int) - 1).tdiv 3 = (faults n : Nat) := by
  unfold faults
  rcases Nat.eq_zero_or_pos n with h | h
  · subst h; decide
  · have : (if (n : Int) - 1 < 0 then 0 else (n : Int) - 1) = ((n - 1 : Nat) : Int) := by split <;> omega
    rw [this]
    rfl
theorem cfaults_meets (c : Conf) (h : c.ms.length ≤ 1000000) : Meets Tryd.prog G fn_config_Faults [c.av] [] true (.v (.int .i64 (faults c.ms.length : Nat))) [] := by
  refine meets_of_go mix k_config_Faults ⟨by simp, by simp, by simp⟩ ?_
  have e := @faults_int c.ms.length
  have hs : IntKind.i64.wrap ((c.ms.length : Int) - 1) = (c.ms.length : Int) - 1 := w64_id (by omega)
  have hf : IntKind.i64.wrap (faults c.ms.length : Nat) = (faults c.ms.length : Nat) := w64_id (by unfold faults; omega)
  generalize faults c.ms.length = f at *
  simp [Conf.av, hs, e, hf]
  refine post_end (.inr rfl) ?_
  simp
theorem cquorum_meets (c : Conf) (h : c.ms.length ≤ 1000000) : Meets Tryd.prog G fn_config_Quorum [c.av] [] true (.v (.int .i64 (quorum c.ms.length : Nat))) [] := by
  refine meets_of_go mix k_config_Quorum ⟨by simp, by simp, by simp⟩ ?_
  have m1 := cfaults_meets (G := G) c h
  have hf : faults c.ms.length ≤ 1000000 := by unfold faults; omega
  have h1 : IntKind.i64.wrap ((c.ms.length : Int) + (faults c.ms.length : Nat)) = (c.ms.length : Int) + (faults c.ms.length : Nat) := w64_id (by omega)
  have h2 : IntKind.i64.wrap (IntKind.i64.wrap (((c.ms.length : Int) + (faults c.ms.length : Nat)).tdiv 2) + 1) = (quorum c.ms.length : Nat) := by
    have h4 : ((c.ms.length : Int) + (faults c.ms.length : Nat)).tdiv 2 = ((c.ms.length + faults c.ms.length) / 2 : Nat) := rfl
    have h5 : IntKind.i64.wrap (((c.ms.length + faults c.ms.length) / 2 : Nat) : Int) = ((c.ms.length + faults c.ms.length) / 2 : Nat) := w64_id (by omega)
    rw [h4, h5]
    exact w64_succ (by omega)
  generalize quorum c.ms.length = q at *
  generalize faults c.ms.length = f at *
  simp [Conf.av]
  refine call_intro m1 ?_ ?_
  · simp [Conf.av]
  simp [h1, h2]
  refine post_end (.inr rfl) ?_
  simp
def bConfig : Bytes := [99, 111, 110, 102, 105, 103]
def Conf.dg (c : Conf) : Dg := sha (bConfig ++ c.bytes)
def bVote : Bytes := [118, 111, 116, 101]
def Vote.signs (v : Vote) : Dg := sha (bVote ++ v.head)
theorem B_vote : B bVote = [AV.v (.int .u8 118), .v (.int .u8 111), .v (.int .u8 116), .v (.int .u8 101)] := (rfl)
theorem memsB_length (ms : List Mem) : (memsB ms).length = ms.length * 48 := by
  induction ms with
  | nil => rfl
  | cons m ms ih =>
    show (memB m ++ memsB ms).length = _
    rw [List.length_append, ih]
    simp [memB, nums_length]
    omega
theorem Conf.bytes_len (c : Conf) : c.bytes.length = 16 + c.ms.length * 48 := by simp [Conf.bytes, nums_length, memsB_length]
theorem Vote.head_len (v : Vote) : v.head.length = 72 := by simp [Vote.head, nums_length]

theorem vsigns_meets (v : Vote) : Meets Tryd.prog Gt fn_vote_Signs [v.av] [] true (dv v.signs) [] := by
  refine meets_of_go mix k_vote_Signs ⟨by simp, by simp, by simp⟩ ?_
  have hrl : bVote.length = 4 := rfl
  have hb := v.head_len
  have e : cat [bVote, v.head] = bVote ++ v.head := by simp [cat]
  have m1 := vhead_meets (G := Gt) [] v (by simp)
  rw [List.nil_append] at m1
  have m2 := bytes_meets (G := Gt) v.head (by omega)
  have m3 := of_meets [bVote, v.head] (by simp) (by rw [e, List.length_append, hrl]; omega)
  rw [e] at m3
  unfold Vote.signs
  generalize sha (bVote ++ v.head) = d at *
  generalize v.head = x at *
  have hx : List.take x.length x = x := List.take_of_length_le (by omega)
  have hB := B_vote
  generalize bVote = r at *
  have hr : List.take 4 r = r := List.take_of_length_le (by omega)
  simp [Vote.av, dv]
  refine call_intro m1 ?_ ?_
  · simp [wrM, Vote.av, dv]
  simp [wrM, Vote.av, dv]
  refine call_intro m2 ?_ ?_
  · simp [wrM]
  simp [wrM]
  refine call_intro m3 ?_ ?_
  · simp [Bss, hB, hx, hr]
  simp
  refine post_end (.inr rfl) ?_
  simp
end Go.Proofs.YtjlmpdbagmdbiaaDoor.WL

end
section
/-
  CHAPTER 03: contracts of the reference.
-/
namespace Go.Proofs.YtjlmpdbagmdbiaaDoor.WL
open Go
set_option maxHeartbeats 4000000
attribute [local irreducible] comp hb sha leafD pairD

theorem same_take {α : Type} [DecidableEq α] {a b : List α} {j : Nat} (ha : j < a.length) (hb : j < b.length) (h : a.take j = b.take j) (hj : a[j] = b[j]) : a.take (j + 1) = b.take (j + 1) := by
  rw [take_snoc _ _ ha, take_snoc _ _ hb, h, hj]

theorem rsame_meets {G : Nat → Option AV} (a b : List Dg) (ha : a.length ≤ 1000000000) : Meets Tryd.prog G fn_r03_Same [.sl 32 (Dgs a), .sl 32 (Dgs b)] [] true (.v (.bool (decide (a = b)))) [] := by
  refine meets_of_go mix k_r03_Same ⟨by simp, by simp, by simp⟩ ?_
  by_cases hl : a.length = b.length
  · simp [hl]
    refine go_up a.length (fun j (_ : Unit) => a.take j = b.take j) (fun j (_ : Unit) c => ⟨[(0, .sl 32 (Dgs a)), (1, .sl 32 (Dgs b)), (12, .v (.int .i64 (b.length : Nat))), (13, .v (.int .i64 (j : Nat)))], [], c⟩) () _ (Weak.refl _) (by simp) ?_ ?_
    · intro j _ c hj hx
      have hw : IntKind.i64.wrap ((j : Int) + 1) = ((j + 1 : Nat) : Int) := w64_succ (by omega)
      have hj2 : j < b.length := by omega
      by_cases he : a[j] = b[j]
      · simp [hj, hj2, he, hw]
        exact ⟨(), _, Weak.refl _, same_take hj hj2 hx he⟩
      · have hne : ¬ a = b := by intro e; subst e; exact he rfl
        simp [hj, hj2, he, hw]
        refine post_end (.inr rfl) ?_
        simp [hne]
    · intro _ c hx
      have he : a = b := by rw [List.take_length, hl, List.take_length] at hx; exact hx
      simp [hl]
      refine post_end (.inr rfl) ?_
      simp [he]
  · have hne : ¬ a = b := by intro e; subst e; exact hl rfl
    have c1 : ¬ (a.length : Int) = (b.length : Nat) := by omega
    simp [hl, c1]
    refine post_end (.inr rfl) ?_
    simp [hne]
end Go.Proofs.YtjlmpdbagmdbiaaDoor.WL

end
section
/-
  CHAPTER 08: the reference.
-/
namespace Go.Proofs.YtjlmpdbagmdbiaaDoor.WL
open Go
set_option maxHeartbeats 8000000
variable {G : Nat → Option AV}

theorem idxOf_hit {ms : List Mem} {id : Int} {k : Nat} (hk : k < ms.length) (h : (ms[k]).id = id) (hm : ∀ j (hj : j < ms.length), j < k → (ms[j]).id ≠ id) : idxOf ms id = (k : Int) := by
  have := Lib.idxBy_hit (fun _ y : Mem => decide (y.id = id)) ms ms.length k default hk (Nat.le_refl _) (decide_eq_true (by simp [hk, h])) (fun j hj => decide_eq_false (by simpa [show j < ms.length by omega] using hm j (by omega) hj))
  rwa [List.take_length] at this
attribute [local irreducible] sha idxOf faults quorum

end Go.Proofs.YtjlmpdbagmdbiaaDoor.WL

end
section
/-
  CHAPTER 04: contracts of the reference.
-/
namespace Go.Proofs.YtjlmpdbagmdbiaaDoor.WL
open Go
set_option maxHeartbeats 4000000
attribute [local irreducible] comp hb sha leafD pairD secD shutD wholeD pubD ofD

theorem rsame4_meets {G : Nat → Option AV} (a b c d : List Dg) (ha : a.length ≤ 1000000000) (hb : b.length ≤ 1000000000) :
    Meets Tryd.prog G fn_r04_Same [.node [.sl 32 (Dgs a), .sl 32 (Dgs b)], .node [.sl 32 (Dgs c), .sl 32 (Dgs d)]] [] true (.v (.bool (decide (a = c) && decide (b = d)))) [] := by
  refine meets_of_go mix k_r04_Same ⟨by simp, by simp, by simp⟩ ?_
  simp
  refine call_intro (rsame_meets a c ha) ?_ ?_
  · simp
  by_cases h : a = c
  · simp [h]
    refine call_intro (rsame_meets b d hb) ?_ ?_
    · simp
    simp
    refine post_end (.inr rfl) ?_
    simp
  · simp [h]
    refine post_end (.inr rfl) ?_
    simp
end Go.Proofs.YtjlmpdbagmdbiaaDoor.WL

end
section
/-
  CHAPTER 05: contracts of the reference.
-/
namespace Go.Proofs.YtjlmpdbagmdbiaaDoor.WL
open Go
set_option maxHeartbeats 4000000
attribute [local irreducible] comp hb sha leafD pairD secD shutD wholeD pubD ofD

def Sig.same (a b : Sig) : Bool := decide (a.leaf = b.leaf) && (decide (a.op = b.op) && decide (a.sh = b.sh)) && decide (a.path = b.path)
theorem rksame_meets {G : Nat → Option AV} (a b : Sig) (h1 : a.op.length ≤ 1000000000) (h2 : a.sh.length ≤ 1000000000) (h3 : a.path.length ≤ 1000000000) : Meets Tryd.prog G fn_r05_Same [a.avS, b.avS] [] true (.v (.bool (a.same b))) [] := by
  refine meets_of_go mix k_r05_Same ⟨by simp, by simp, by simp⟩ ?_
  have m1 := rsame4_meets (G := G) a.op a.sh b.op b.sh h1 h2
  have m2 := rsame_meets (G := G) a.path b.path h3
  unfold Sig.same
  by_cases c1 : a.leaf = b.leaf
  · simp [Sig.avS, c1]
    refine call_intro m1 ?_ ?_
    · simp
    by_cases c2 : a.op = b.op ∧ a.sh = b.sh
    · simp [c2]
      refine call_intro m2 ?_ ?_
      · simp
      simp
      refine post_end (.inr rfl) ?_
      simp
    · have c3 : (decide (a.op = b.op) && decide (a.sh = b.sh)) = false := by
        rw [Bool.and_eq_false_iff, decide_eq_false_iff_not, decide_eq_false_iff_not]
        by_cases e : a.op = b.op
        · exact .inr fun h => c2 ⟨e, h⟩
        · exact .inl e
      simp only [c3]
      simp
      refine post_end (.inr rfl) ?_
      simp
  · simp [Sig.avS, c1]
    refine post_end (.inr rfl) ?_
    simp
end Go.Proofs.YtjlmpdbagmdbiaaDoor.WL

end
section
/-
  CHAPTER 13: whether a vote is right.
-/
namespace Go.Proofs.YtjlmpdbagmdbiaaDoor.WL
open Go
set_option maxHeartbeats 4000000
variable {G : Nat → Option AV}
attribute [local irreducible] sha comp hb checkK idxOf Vote.signs Vote.good

def memAt (ms : List Mem) (id : Int) : Mem := ms[(idxOf ms id).toNat]!
def rightV (c : Conf) (v : Vote) : Bool := decide (0 ≤ idxOf c.ms v.src) && v.good && decide (v.epoch = c.epoch) && checkK (memAt c.ms v.src).root (memAt c.ms v.src).height v.signs v.sig
theorem rightV_none {c : Conf} {v : Vote} (h : idxOf c.ms v.src = -1) : rightV c v = false := by simp [rightV, h]
theorem rightV_some {c : Conf} {v : Vote} {k : Nat} (hk : k < c.ms.length) (h : idxOf c.ms v.src = (k : Int)) : rightV c v = (v.good && decide (v.epoch = c.epoch) && checkK c.ms[k].root c.ms[k].height v.signs v.sig) := by
  simp [rightV, memAt, h, hk]

theorem vright_meets (c : Conf) (v : Vote) (hms : c.ms ≠ []) (hm : ∀ m ∈ c.ms, W64 m.height) (hv : W64 v.sig.leaf) : Meets Tryd.prog Gt fn_vote_Right [c.av, v.av] [] true (.v (.bool (rightV c v))) [] := by
  refine meets_of_go mix k_vote_Right ⟨by simp, by simp, by simp⟩ ?_
  rcases idxOf_case c.ms v.src with h | ⟨k, hk, h⟩
  · rw [rightV_none h]
    have m1 := find_none (G := Gt) hms h
    simp [Conf.av, Vote.av]
    refine call_intro m1 ?_ ?_
    · simp [Conf.av]
    simp [Mem.av]
    refine post_end (.inr rfl) ?_
    simp
  · rw [rightV_some hk h]
    have m1 := find_some (G := Gt) hk h
    have m2 := vgood_meets (G := Gt) v
    have m3 := vsigns_meets v
    have hh := hm _ (List.getElem_mem hk)
    have m4 := kcheck_meets c.ms[k].root c.ms[k].height v.signs v.sig hh hv
    generalize checkK c.ms[k].root c.ms[k].height v.signs v.sig = b4 at *
    generalize v.signs = sg at *
    simp [Conf.av, Vote.av]
    refine call_intro m1 ?_ ?_
    · simp [Conf.av]
    simp [Mem.av]
    refine call_intro m2 ?_ ?_
    · simp [Vote.av]
    simp
    cases hg : v.good
    · simp [hg]
      refine post_end (.inr rfl) ?_
      simp
    by_cases he : v.epoch = c.epoch
    · simp [hg, he]
      refine call_intro m3 ?_ ?_
      · simp [Vote.av, hg, he]
      simp [dv]
      refine call_intro m4 ?_ ?_
      · simp [dv]
      simp
      refine post_end (.inr rfl) ?_
      simp
    · simp [hg, he]
      refine post_end (.inr rfl) ?_
      simp
end Go.Proofs.YtjlmpdbagmdbiaaDoor.WL

end
section
/-
  CHAPTER 14, 15: contracts of words and links, written and read.
-/
namespace Go.Proofs.YtjlmpdbagmdbiaaDoor.WL
open Go
set_option maxHeartbeats 4000000
variable {G : Nat → Option AV}
attribute [local irreducible] sha
attribute [local irreducible] Rd.sig Rd.sig' Rd.blk Rd.blk' Rd.inn Rd.inn' Rd.dg Rd.dg' Rd.rep Rd.rep' repR

theorem votesB_take (vs : List Vote) (i : Nat) (h : i < vs.length) : votesB (vs.take (i + 1)) = votesB (vs.take i) ++ voteF.wr vs[i] := by
  rw [List.take_succ_eq_append_getElem h, votesB_snoc]
theorem voteF_len (v : Vote) (h : v.sig.ok = true) : (voteF.wr v).length ≤ 2328 := by
  simp only [Sig.ok, decide_eq_true_eq] at h
  rw [voteF_wr, List.length_append, Sig.bytes_len]
  simp [Vote.head, nums_length]
  omega
theorem votesB_len : ∀ (vs : List Vote), (vs.all fun v => v.sig.ok) = true → (votesB vs).length ≤ 2328 * vs.length
  | [], _ => by simp [votesB]
  | v :: vs, h => by
    simp only [List.all_cons, Bool.and_eq_true] at h
    have h1 := voteF_len v h.1
    have h2 := votesB_len vs h.2
    show (voteF.wr v ++ votesB vs).length ≤ _
    rw [List.length_append, List.length_cons]
    omega
theorem all_take {α : Type} {p : α → Bool} {l : List α} {i : Nat} (h : ∀ k (hk : k < l.length), k < i → p l[k] = true) : (l.take i).all p = true := by
  rw [List.all_eq_true]
  intro a ha
  obtain ⟨k, hk, rfl⟩ := List.getElem_of_mem ha
  rw [List.length_take] at hk
  rw [List.getElem_take]
  exact h k (by omega) (by omega)
theorem twrite_bad (bs : Bytes) (x : Cert) (hk : x.ok = false) (hn : x.votes.length ≤ 1000) : Meets Tryd.prog G fn_cert_Write [.ptr 1000 0 0, x.av] (wrM 0 bs) true (.v (.bool false)) (wrM 1 bs) := by
  refine meets_of_go mix k_cert_Write ⟨by simp [wrM], by simp, by simp [wrM]⟩ ?_
  have m1 := wnum_meets (G := G) [] [x.round, (x.votes.length : Int)] (by simp)
  have hy : (nums [x.round, (x.votes.length : Int)]).length = 16 := by rw [nums_length]; simp
  rw [List.nil_append] at m1
  unfold Cert.ok at hk
  generalize hvs : x.votes = vs at *
  generalize nums [x.round, (vs.length : Int)] = y at *
  simp [wrM, Cert.av, hvs]
  refine call_intro m1 ?_ ?_
  · simp [wrM, I64_2]
  simp [wrM, I64_2]
  obtain ⟨F, hF⟩ : ∃ F : Nat → Bytes, ∀ i, F i = y ++ votesB (vs.take i) := ⟨_, fun _ => rfl⟩
  have hF0 : y = F 0 := by rw [hF]; simp [votesB]
  have h0l : (F 0).length = 16 := by rw [← hF0]; exact hy
  rw [← h0l] at hy
  rw [hF0]
  have h16 : (F 0).length = 16 := h0l
  refine go_up vs.length (fun j (_ : Unit) => ∀ k (hk : k < vs.length), k < j → vs[k].sig.ok = true) (fun j _ c => ⟨[(0, .ptr 1000 0 0), (3, .ptr 3 c 0), (5, .ptr 11 c 0), (21, .sl 41 (Votes vs)), (22, .v (.int .i64 (vs.length : Nat))), (23, .v (.int .i64 (j : Nat)))],
    [(3, .var c x.av), (11, .var c (.node [.row 12 1 c 0 (F j).length])), (12, .rows c 1 (B (F j))), (1000, .var 0 (.node [.row 2000 1 c 0 bs.length])), (2000, .rows c 1 (B bs))], c + 1⟩) () _ (Weak.re0 1000 (by simp [Cert.av, hvs])) (by intro k _ h; omega) ?_ ?_
  · intro j _ c hj hok
    have hw : IntKind.i64.wrap ((j : Int) + 1) = ((j + 1 : Nat) : Int) := w64_succ (by omega)
    have hlj : (F j).length ≤ 16 + 2328 * j := by
      have h1 := votesB_len (vs.take j) (all_take (p := fun v : Vote => v.sig.ok) hok)
      rw [List.length_take] at h1
      rw [hF, List.length_append, hF0, h16]
      have : 2328 * min j vs.length ≤ 2328 * j := by omega
      omega
    cases hsk : vs[j].sig.ok
    · have m4 := vwrite_bad (G := G) (F j) vs[j] hsk
      simp [hj]
      refine call_intro m4 ?_ ?_
      · simp [wrM]
      simp [wrM]
      refine post_end (.inr rfl) ?_
      simp
    · have m4 := vwrite_meets (G := G) (F j) vs[j] hsk (by omega)
      have hFs : F j ++ voteF.wr vs[j] = F (j + 1) := by rw [hF, hF, votesB_take vs j hj, List.append_assoc]
      rw [hFs] at m4
      simp [hj]
      refine call_intro m4 ?_ ?_
      · simp [wrM]
      simp [wrM]
      simp [hw]
      refine ⟨(), _, Weak.re0 1000 (by simp), ?_⟩
      intro k hk2 hkj
      rcases (show k < j ∨ k = j by omega) with h | rfl
      · exact hok k hk2 h
      · exact hsk
  · intro _ c hok
    exfalso
    have : (vs.all fun v => v.sig.ok) = true := by
      have := all_take (p := fun v : Vote => v.sig.ok) (l := vs) (i := vs.length) hok
      rwa [List.take_length] at this
    rw [this] at hk
    cases hk
theorem twrite_meets (bs : Bytes) (x : Cert) (hk : x.ok = true) (hn : x.votes.length ≤ 1000) (hbs : bs.length ≤ 20000000) : Meets Tryd.prog G fn_cert_Write [.ptr 1000 0 0, x.av] (wrM 0 bs) true (.v (.bool true)) (wrM 1 (bs ++ x.bytes)) := by
  refine meets_of_go mix k_cert_Write ⟨by simp [wrM], by simp, by simp [wrM]⟩ ?_
  have m1 := wnum_meets (G := G) [] [x.round, (x.votes.length : Int)] (by simp)
  have m2 := wnum_meets (G := G) bs [x.round, (x.votes.length : Int)] (by simp; omega)
  have hy : (nums [x.round, (x.votes.length : Int)]).length = 16 := by rw [nums_length]; simp
  have hb : bs ++ x.bytes = bs ++ nums [x.round, (x.votes.length : Int)] ++ votesB x.votes := by simp [Cert.bytes]
  rw [List.nil_append] at m1
  rw [hb]
  unfold Cert.ok at hk
  have hall : ∀ k (h : k < x.votes.length), (x.votes[k]).sig.ok = true := fun k h => List.all_eq_true.1 hk _ (List.getElem_mem h)
  generalize hvs : x.votes = vs at *
  generalize nums [x.round, (vs.length : Int)] = y at *
  obtain ⟨F, hF⟩ : ∃ F : Nat → Bytes, ∀ i, F i = y ++ votesB (vs.take i) := ⟨_, fun _ => rfl⟩
  obtain ⟨K, hK⟩ : ∃ K : Nat → Bytes, ∀ i, K i = bs ++ y ++ votesB (vs.take i) := ⟨_, fun _ => rfl⟩
  have hF0 : y = F 0 := by rw [hF]; simp [votesB]
  have hK0 : bs ++ F 0 = K 0 := by rw [hK, ← hF0]; simp [votesB]
  have hKN : bs ++ y ++ votesB vs = K vs.length := by rw [hK, List.take_length]
  have hvl : ∀ j, j ≤ vs.length → (votesB (vs.take j)).length ≤ 2328 * j := by
    intro j hj
    have h1 := votesB_len (vs.take j) (all_take fun k h _ => hall k h)
    rw [List.length_take] at h1
    have : 2328 * min j vs.length ≤ 2328 * j := by omega
    omega
  have hFl : ∀ j, j ≤ vs.length → (F j).length ≤ 16 + 2328 * j := by
    intro j hj
    have := hvl j hj
    rw [hF, List.length_append, hy]
    omega
  have hKl : ∀ j, j ≤ vs.length → (K j).length ≤ bs.length + 16 + 2328 * j := by
    intro j hj
    have := hvl j hj
    rw [hK, List.length_append, List.length_append, hy]
    omega
  have hFs : ∀ j (hj : j < vs.length), F j ++ voteF.wr vs[j] = F (j + 1) := fun j hj => by rw [hF, hF, votesB_take vs j hj, List.append_assoc]
  have hKs : ∀ j (hj : j < vs.length), K j ++ voteF.wr vs[j] = K (j + 1) := fun j hj => by rw [hK, hK, votesB_take vs j hj]; simp only [List.append_assoc]
  rw [hKN]
  clear hF hK hKN hb hvl
  rw [hF0] at m1 m2 hy
  rw [hK0] at m2
  clear hF0
  simp [wrM, Cert.av, hvs]
  refine call_intro m1 ?_ ?_
  · simp [wrM, I64_2]
  simp [wrM, I64_2]
  refine go_up vs.length (fun j (_ : Unit) => True) (fun j _ c => ⟨[(0, .ptr 1000 0 0), (3, .ptr 3 c 0), (5, .ptr 11 c 0), (21, .sl 41 (Votes vs)), (22, .v (.int .i64 (vs.length : Nat))), (23, .v (.int .i64 (j : Nat)))],
    [(3, .var c x.av), (11, .var c (.node [.row 12 1 c 0 (F j).length])), (12, .rows c 1 (B (F j))), (1000, .var 0 (.node [.row 2000 1 c 0 bs.length])), (2000, .rows c 1 (B bs))], c + 1⟩) () _ (Weak.re0 1000 (by simp [Cert.av, hvs])) trivial ?_ ?_
  · intro j _ c hj _
    have hw : IntKind.i64.wrap ((j : Int) + 1) = ((j + 1 : Nat) : Int) := w64_succ (by omega)
    have hlj := hFl j (by omega)
    have m4 := vwrite_meets (G := G) (F j) vs[j] (hall j hj) (by omega)
    rw [hFs j hj] at m4
    simp [hj]
    refine call_intro m4 ?_ ?_
    · simp [wrM]
    simp [wrM]
    simp [hw]
    exact ⟨(), _, Weak.re0 1000 (by simp), trivial⟩
  · intro _ c _
    simp [Cert.av, hvs]
    refine call_intro m2 ?_ ?_
    · simp [wrM, I64_2]
    simp [wrM, I64_2]
    refine go_up vs.length (fun j (_ : Unit) => True) (fun j _ c => ⟨[(0, .ptr 1000 0 0), (41, .sl 41 (Votes vs)), (42, .v (.int .i64 (vs.length : Nat))), (43, .v (.int .i64 (j : Nat)))],
      [(1000, .var 0 (.node [.row 2000 1 c 0 (K j).length])), (2000, .rows c 1 (B (K j)))], c + 1⟩) () _ (Weak.re0 1000 (by simp)) trivial ?_ ?_
    · intro j _ c hj _
      have hw : IntKind.i64.wrap ((j : Int) + 1) = ((j + 1 : Nat) : Int) := w64_succ (by omega)
      have hlj := hKl j (by omega)
      have m4 := vwrite_meets (G := G) (K j) vs[j] (hall j hj) (by omega)
      rw [hKs j hj] at m4
      simp [hj]
      refine call_intro m4 ?_ ?_
      · simp [wrM]
      simp [wrM]
      simp [hw]
      exact ⟨(), _, Weak.re0 1000 (by simp), trivial⟩
    · intro _ c _
      simp
      refine post_end (.inr rfl) ?_
      simp
theorem count10 (r : Rd) : (0 : Int) ≤ r.inn 1 10 ∧ r.inn 1 10 ≤ 10 := by
  unfold Rd.inn Rd.inOk
  split
  · rename_i k
    simp only [Bool.and_eq_true, decide_eq_true_eq] at k
    omega
  · omega
theorem tread_meets (r : Rd) : Meets Tryd.prog G fn_cert_Read [.ptr 1000 0 0] (rdM 0 r) false (certF.rd r).av (rdM 1 (certF.rd' r)) := by
  refine meets_of_go mix k_cert_Read ⟨by simp [rdM], by simp [rdM], by simp [rdM]⟩ ?_
  rw [certF_rd, certF_rd']
  have hN : ((r.certN : Nat) : Int) = (r.inn' 0 1024).inn 1 10 ∧ r.certN ≤ 10 := by
    have := count10 (r.inn' 0 1024)
    unfold Rd.certN
    omega
  obtain ⟨hN, hN2⟩ := hN
  generalize r.certN = N at *
  have m1 := in_meets (G := G) r 0 1024
  generalize r.inn 0 1024 = a1 at *
  generalize r.inn' 0 1024 = r1 at *
  have m2 := in_meets (G := G) r1 1 10
  rw [← hN] at m2
  clear hN
  generalize r1.inn' 1 10 = r2 at *
  simp [rdM]
  refine call_intro m1 ?_ ?_
  · simp [rdM]
  simp [rdM]
  refine call_intro m2 ?_ ?_
  · simp [rdM]
  simp [rdM]
  obtain ⟨L, hL⟩ : ∃ L : Nat → List Vote, ∀ i, L i = (repR (fun _ => voteF) r2 i).1 := ⟨_, fun _ => rfl⟩
  obtain ⟨R, hR⟩ : ∃ R : Nat → Rd, ∀ i, R i = (repR (fun _ => voteF) r2 i).2 := ⟨_, fun _ => rfl⟩
  have hL0 : L 0 = [] := by rw [hL]; simp only [repR]
  have hR0 : r2 = R 0 := by rw [hR]; simp only [repR]
  have hLl : ∀ i, (L i).length = i := fun i => by rw [hL]; exact repR_length _ r2 i
  rw [← hL, ← hR]
  rw [hR0]
  refine go_up N (fun j (_ : Unit) => True) (fun j _ c => ⟨[(0, .ptr 1000 0 0), (2, .ptr 2 c 0), (3, .ptr 3 c 0), (8, .v (.int .i64 (N : Nat))), (9, .v (.int .i64 (j : Nat)))],
    [(2, .var c (.node [.v (.int .i64 0), .v (.slice none 0 0)])), (3, .var c (.node [.v (.int .i64 a1), .row 16 41 c 0 j])), (16, .rows c 41 (Votes (L j))),
     (1000, .var 0 (.node [.row 2000 1 c (R j).pre.length (R j).s.length, .v (.bool (R j).bad)])), (2000, .rows c 1 (B ((R j).pre ++ (R j).s)))], c + 1⟩) () _ (Weak.re0 1000 (by simp [hL0])) trivial ?_ ?_
  · intro j _ c hj _
    have hw : IntKind.i64.wrap ((j : Int) + 1) = ((j + 1 : Nat) : Int) := w64_succ (by omega)
    have f1 : fitsB (j + 1) 152 := fits (by omega) (by omega)
    have e1 : L (j + 1) = L j ++ [voteF.rd (R j)] := by rw [hL, hL, hR]; simp only [repR]
    have e2 : R (j + 1) = voteF.rd' (R j) := by rw [hR, hR]; simp only [repR]
    have hlj := hLl j
    generalize R j = q at *
    have m3 := vread_meets (G := G) q
    generalize voteF.rd q = v at *
    generalize voteF.rd' q = q1 at *
    generalize L j = x at *
    have hS := Votes_snoc x v
    simp [hj, rdM]
    refine call_intro m3 ?_ ?_
    · simp [rdM]
    simp [rdM, f1, hlj, hS]
    simp [hw]
    exact ⟨(), _, Weak.re0 1000 (by simp [e1, e2]), trivial⟩
  · intro _ c _
    have hlN := hLl N
    generalize R N = q at *
    generalize L N = x at *
    have m8 := good_meets (G := G) q
    have htx : List.take N x = x := List.take_of_length_le (by omega)
    simp [rdM]
    refine call_intro m8 ?_ ?_
    · simp [rdM]
    simp [rdM]
    cases hb : q.bad
    · simp [rdM, hb]
      refine post_end (.inr rfl) ?_
      simp [Cert.av, hb, hlN, htx]
    · simp [rdM, hb]
      refine post_end (.inr rfl) ?_
      simp [Cert.av, Cert.zero, hb]

/-! Links. -/
theorem Cert.bytes_len (x : Cert) (h : x.ok = true) : x.bytes.length ≤ 16 + 2328 * x.votes.length := by
  have := votesB_len x.votes h
  simp only [Cert.bytes, List.length_append, nums_length, List.length_cons, List.length_nil]
  omega
end Go.Proofs.YtjlmpdbagmdbiaaDoor.WL

end
section
/-
  CHAPTER 05: contracts of the reference: writing and reading.
-/
namespace Go.Proofs.YtjlmpdbagmdbiaaDoor.WL
open Go
set_option maxHeartbeats 4000000
variable {G : Nat → Option AV}

theorem rkwrite_bad (s : Sig) (h : s.ok = false) : Meets Tryd.prog G fn_r05_Write [s.avS] [] true (.tup [.v (.string (mkS [])), .v (.bool false)]) [] := by
  refine meets_of_go mix k_r05_Write ⟨by simp, by simp, by simp⟩ ?_
  simp only [Sig.ok, decide_eq_false_iff_not] at h
  by_cases h1 : s.op.length = 32
  · by_cases h2 : s.sh.length = 32
    · have h3 : 6 < s.path.length := by omega
      have h3i : (6 : Int) < (s.path.length : Nat) := by omega
      simp [Sig.avS, h1, h2, h3, h3i]
      refine post_end (.inr rfl) ?_
      simp
    · have h2i : ¬ (s.sh.length : Int) = 32 := by omega
      simp [Sig.avS, h1, h2, h2i]
      refine post_end (.inr rfl) ?_
      simp
  · have h1i : ¬ (s.op.length : Int) = 32 := by omega
    simp [Sig.avS, h1, h1i]
    refine post_end (.inr rfl) ?_
    simp

def Dgss (l : List (List Dg)) : List AV := l.map fun x => .sl 32 (Dgs x)
@[simp] theorem Dgss_length (l : List (List Dg)) : (Dgss l).length = l.length := by simp [Dgss]
@[simp] theorem Dgss_closed (l : List (List Dg)) : closeds (Dgss l) = true := by simp [Dgss, closeds_all]
@[simp] theorem Dgss_getElem (n : Nat) (a : List (List Dg)) (h : n < (Dgss a).length) : (Dgss a)[n] = .sl 32 (Dgs (a[n]'(by simpa using h))) := by simp [Dgss]
@[simp] theorem Dgss_get (n : Nat) (a : List (List Dg)) : (Dgss a)[n]? = (a[n]?).map fun p => .sl 32 (Dgs p) := by simp [Dgss]
theorem Dgss_3 (a b c : List Dg) : [AV.sl 32 (Dgs a), .sl 32 (Dgs b), .sl 32 (Dgs c)] = Dgss [a, b, c] := (rfl)

theorem rkwrite_meets (s : Sig) (h : s.ok = true) : Meets Tryd.prog G fn_r05_Write [s.avS] [] true (.tup [.v (.string (mkS s.bytes)), .v (.bool true)]) [] := by
  refine meets_of_go mix k_r05_Write ⟨by simp, by simp, by simp⟩ ?_
  simp only [Sig.ok, decide_eq_true_eq] at h
  obtain ⟨h1, h2, h3⟩ := h
  have h3i : ¬ (6 : Int) < (s.path.length : Nat) := by omega
  have h3n : ¬ 6 < s.path.length := by omega
  obtain ⟨L, hL⟩ : ∃ L, L = [s.op, s.sh, s.path] := ⟨_, rfl⟩
  have hLl : L.length = 3 := by rw [hL]; rfl
  have hLs : ∀ i (hi : i < L.length), L[i].length ≤ 32 := by
    intro i hi
    subst hL
    rcases (show i = 0 ∨ i = 1 ∨ i = 2 by simp at hi; omega) with rfl | rfl | rfl
    · show s.op.length ≤ 32; omega
    · show s.sh.length ≤ 32; omega
    · show s.path.length ≤ 32; omega
  have hbts : s.bytes = be8 s.leaf ++ be8 (s.path.length : Int) ++ (L.map flatD).flatten := by rw [hL]; simp [Sig.bytes, nums]
  rw [hbts]
  have m1 := rfnum_meets (G := G) s.leaf
  have m2 := rfnum_meets (G := G) (s.path.length : Int)
  have l1 := be8_length s.leaf
  have l2 := be8_length (s.path.length : Int)
  generalize be8 s.leaf = x1 at *
  generalize be8 (s.path.length : Int) = x2 at *
  have f1 : fitsS (8 + 8) := fitS (by omega)
  have hfl : ∀ i, i ≤ L.length → ((L.take i).map flatD).flatten.length ≤ 1024 * i := by
    intro i
    induction i with
    | zero => intro _; simp
    | succ i ih =>
      intro hi
      rw [take_snoc _ _ (by omega), List.map_append, List.flatten_append, List.length_append]
      have := ih (by omega)
      have h4 := hLs i (by omega)
      simp only [List.map_cons, List.map_nil, List.flatten_cons, List.flatten_nil, List.append_nil, flatD_length]
      omega
  obtain ⟨F, hF⟩ : ∃ F : Nat → Bytes, ∀ i, F i = x1 ++ x2 ++ ((L.take i).map flatD).flatten := ⟨_, fun _ => rfl⟩
  have hF0 : F 0 = x1 ++ x2 := by rw [hF]; simp
  have hF3 : F 3 = x1 ++ x2 ++ (L.map flatD).flatten := by rw [hF, List.take_of_length_le (by omega)]
  have hFs : ∀ i (hi : i < L.length), F (i + 1) = F i ++ flatD L[i] := by
    intro i hi
    rw [hF, hF, take_snoc _ _ hi, List.map_append, List.flatten_append]
    simp only [List.map_cons, List.map_nil, List.flatten_cons, List.flatten_nil, List.append_nil, List.append_assoc]
  have hFl : ∀ i, i ≤ L.length → (F i).length ≤ 16 + 1024 * i := by
    intro i hi
    have := hfl i hi
    rw [hF, List.length_append, List.length_append, l1, l2]
    omega
  rw [← hF3]
  simp [Sig.avS, h1, h2, h3n, h3i]
  refine call_intro m1 ?_ ?_
  · simp
  simp
  refine call_intro m2 ?_ ?_
  · simp
  simp [f1, l1, l2]
  refine go_up 3 (fun i (x : Bytes) => x = F i) (fun i x c => ⟨[(4, .v (.string (mkS x))), (43, .row 43 1 c 0 3), (44, .v (.int .i64 3)), (45, .v (.int .i64 (i : Nat)))], [(43, .rows c 1 (Dgss L))], c + 1⟩) (x1 ++ x2) _ (Weak.re (by simp [hL, Dgss_3])) hF0.symm ?_ ?_
  · intro i x c hi hx
    have hw : IntKind.i64.wrap ((i : Int) + 1) = ((i + 1 : Nat) : Int) := w64_succ (by omega)
    have hi3 : (i : Int) < 3 := by omega
    have hiL : i < L.length := by omega
    have hxl := hFl i (by omega)
    rw [← hx] at hxl
    have hnx := hFs i hiL
    rw [← hx] at hnx
    have hl := hLs i hiL
    obtain ⟨l, hll⟩ : ∃ l, L[i] = l := ⟨_, rfl⟩
    rw [hll] at hnx hl
    simp [hi3, hi, hLl, hll]
    refine go_up l.length (fun j (y : Bytes) => y = x ++ flatD (l.take j)) (fun j y c => ⟨[(4, .v (.string (mkS y))), (43, .row 43 1 c 0 3), (44, .v (.int .i64 3)), (45, .v (.int .i64 (i : Nat))), (49, .sl 32 (Dgs l)), (50, .v (.int .i64 (l.length : Nat))), (51, .v (.int .i64 (j : Nat)))], [(43, .rows c 1 (Dgss L))], c + 1⟩) x _ (Weak.re (by simp)) (by simp [flatD]) ?_ ?_
    · intro j y c hj hy
      have hw : IntKind.i64.wrap ((j : Int) + 1) = ((j + 1 : Nat) : Int) := w64_succ (by omega)
      have hs := flatD_snoc l j hj
      have hyl : y.length ≤ 10000 := by
        rw [hy, List.length_append, flatD_length, List.length_take]
        omega
      have f2 : fitsS (y.length + 32) := fitS (by omega)
      have hny : y ++ l[j].bs = x ++ flatD (l.take (j + 1)) := by rw [hy, hs, List.append_assoc]
      have m3 := rfdigest_meets (G := G) l[j]
      simp [hj]
      refine call_intro m3 ?_ ?_
      · simp
      simp [f2, hw]
      exact ⟨y ++ l[j].bs, _, Weak.re (by simp), hny⟩
    · intro y c hy
      rw [List.take_length] at hy
      simp [hw]
      exact ⟨y, _, Weak.re (by simp), by rw [hy]; exact hnx.symm⟩
  · intro x c hx
    rw [← hx]
    simp
    refine post_end (.inr rfl) ?_
    simp

/-- Where the next digest goes. -/
structure KdA where
  o : List Dg
  s : List Dg
  p : List Dg
def KdA.put (a : KdA) (i : Nat) (d : Dg) : KdA := if i < 32 then { a with o := a.o ++ [d] } else if i < 64 then { a with s := a.s ++ [d] } else { a with p := a.p ++ [d] }
/-- The first i digests in their lists. -/
def Rd.kd (r : Rd) : Nat → KdA
  | 0 => ⟨[], [], []⟩
  | i + 1 => (r.kd i).put i (r.ds' i).dg
theorem kd_o (r : Rd) : ∀ i, i ≤ 32 → r.kd i = ⟨r.ds i, [], []⟩
  | 0, _ => rfl
  | i + 1, h => by
    simp only [Rd.kd, kd_o r i (by omega), KdA.put, if_pos (show i < 32 by omega)]
    rfl
theorem kd_s (r : Rd) : ∀ i, i ≤ 32 → r.kd (32 + i) = ⟨r.ds 32, (r.ds' 32).ds i, []⟩
  | 0, _ => kd_o r 32 (by omega)
  | i + 1, h => by
    show r.kd (32 + i + 1) = _
    simp only [Rd.kd, kd_s r i (by omega), KdA.put, if_neg (show ¬ 32 + i < 32 by omega), if_pos (show 32 + i < 64 by omega), Rd.ds_add']
    rfl
theorem kd_p (r : Rd) : ∀ i, r.kd (64 + i) = ⟨r.ds 32, (r.ds' 32).ds 32, ((r.ds' 32).ds' 32).ds i⟩
  | 0 => kd_s r 32 (by omega)
  | i + 1 => by
    show r.kd (64 + i + 1) = _
    simp only [Rd.kd, kd_p r i, KdA.put, if_neg (show ¬ 64 + i < 32 by omega), if_neg (show ¬ 64 + i < 64 by omega)]
    rw [show 64 + i = 32 + (32 + i) by omega, Rd.ds_add', Rd.ds_add']
    rfl
def kfM (c : Nat) (q : Rd) (leaf : Int) (a : KdA) : List (Nat × Loc) :=
  [(2, .var c (.node [.v (.int .i64 0), .node [.v (.slice none 0 0), .v (.slice none 0 0)], .v (.slice none 0 0)])), (3, .var c (.node [.v (.int .i64 leaf), .node [.row 31 32 c 0 a.o.length, .row 41 32 c 0 a.s.length], .row 48 32 c 0 a.p.length])),
   (31, .rows c 32 (Dgs a.o)), (41, .rows c 32 (Dgs a.s)), (48, .rows c 32 (Dgs a.p)),
   (1000, .var 0 (.node [.v (.string (mkS q.s)), .v (.bool q.bad)]))]

theorem rkread_meets (r : Rd) : Meets Tryd.prog G fn_r05_Read [.ptr 1000 0 0] (rfM r) true (Sig.avR 3000 4000 5000 1 r.sig) (rfM r.sig' ++ Sig.rows 3000 4000 5000 1 r.sig) := by
  refine meets_of_go mix k_r05_Read ⟨by simp [rfM, Sig.rows], by simp [rfM, Sig.rows, Sig.avR], by simp [rfM, Sig.rows]⟩ ?_
  obtain ⟨hN, hN2⟩ := r.sN_eq
  have m1 := rnum_meets (G := G) r
  have m2 := rin_meets (G := G) r.num' 0 6
  rw [← hN] at m2
  have hs2 : r.num'.inn' 0 6 = r.s2 := rfl
  rw [hs2] at m2
  have hsane : ∀ n, (r.s2.ds' n).sane := r.s2.ds_sane (Rd.inn_sane _ _ _)
  have hsig' : r.sig' = r.s2.ds' (64 + r.sN) := by
    unfold Rd.sig'
    rw [show 64 + r.sN = 32 + (32 + r.sN) by omega, Rd.ds_add', Rd.ds_add']
  have hkd := kd_p r.s2 r.sN
  have hsig : r.sig = if (r.s2.ds' (64 + r.sN)).bad = true then Sig.zero else ⟨r.num, (r.s2.kd (64 + r.sN)).o, (r.s2.kd (64 + r.sN)).s, (r.s2.kd (64 + r.sN)).p⟩ := by
    rw [hkd, ← hsig']
    rfl
  rw [hsig', hsig]
  clear hsig hkd hsig'
  generalize r.sN = N at *
  generalize r.num' = r1 at *
  generalize r.num = lf at *
  generalize r.s2 = r2 at *
  obtain ⟨M, hM⟩ : ∃ M, M = 64 + N := ⟨_, rfl⟩
  rw [← hM]
  have wM : IntKind.i64.wrap (64 + (N : Int)) = (M : Int) := by rw [w64_id (by omega)]; omega
  simp [rfM]
  refine call_intro m1 ?_ ?_
  · simp [rfM]
  simp [rfM]
  refine call_intro m2 ?_ ?_
  · simp [rfM]
  simp [rfM]
  refine go_up M (fun j (_ : Unit) => True) (fun j _ c => ⟨[(0, .ptr 1000 0 0), (2, .ptr 2 c 0), (3, .ptr 3 c 0), (4, .v (.int .i64 (N : Nat))), (5, .v (.int .i64 (j : Nat)))], kfM c (r2.ds' j) lf (r2.kd j), c + 1⟩) () _ (Weak.re0 1000 (by simp [kfM, Rd.kd, Rd.ds'])) trivial ?_ ?_
  · intro j _ c hj _
    have hw : IntKind.i64.wrap ((j : Int) + 1) = ((j + 1 : Nat) : Int) := w64_succ (by omega)
    have e1 : r2.kd (j + 1) = (r2.kd j).put j (r2.ds' j).dg := rfl
    have e2 : r2.ds' (j + 1) = (r2.ds' j).dg' := rfl
    have hsj := hsane j
    have hsM := hsane M
    have hbM := r2.ds_bad j
    have m6 := rgood_meets (G := G) (r2.ds' j)
    have hal : (r2.kd j).o.length ≤ j ∧ (r2.kd j).s.length ≤ j ∧ (r2.kd j).p.length ≤ j := by
      clear e1 e2 hsj hsM hbM m6
      induction j with
      | zero => simp [Rd.kd]
      | succ j ih =>
        have := ih (by omega) (w64_succ (by omega))
        simp only [Rd.kd, KdA.put]
        split
        · simp; omega
        · split
          · simp; omega
          · simp; omega
    generalize r2.kd j = a at *
    cases hb : (r2.ds' j).bad
    · generalize r2.ds' j = q at *
      have m5 := rdigest_meets (G := G) q
      generalize q.dg' = q' at *
      generalize q.dg = t at *
      obtain ⟨ox, sx, px⟩ := a
      simp only at hal
      by_cases c1 : j < 32
      · have c1i : (j : Int) < 32 := by omega
        have f1 : fitsB (ox.length + 1) 32 := fits (by omega) (by omega)
        have e3 : r2.kd (j + 1) = ⟨ox ++ [t], sx, px⟩ := by rw [e1]; simp [KdA.put, c1]
        simp [hj, kfM, wM, hb]
        refine call_intro m6 ?_ ?_
        · simp [rfM, hb]
        simp [rfM, hb]
        refine call_intro m5 ?_ ?_
        · simp [rfM, hb]
        simp [rfM, c1, c1i, f1, hw, Dgs_snoc]
        exact ⟨(), _, Weak.re0 1000 (by simp [kfM, e3, e2]), trivial⟩
      · have c1i : ¬ (j : Int) < 32 := by omega
        by_cases c2 : j < 64
        · have c2i : (j : Int) < 64 := by omega
          have f1 : fitsB (sx.length + 1) 32 := fits (by omega) (by omega)
          have e3 : r2.kd (j + 1) = ⟨ox, sx ++ [t], px⟩ := by rw [e1]; simp [KdA.put, c1, c2]
          simp [hj, kfM, wM, hb]
          refine call_intro m6 ?_ ?_
          · simp [rfM, hb]
          simp [rfM, hb]
          refine call_intro m5 ?_ ?_
          · simp [rfM, hb]
          simp [rfM, c1, c1i, c2, c2i, f1, hw, Dgs_snoc]
          exact ⟨(), _, Weak.re0 1000 (by simp [kfM, e3, e2]), trivial⟩
        · have c2i : ¬ (j : Int) < 64 := by omega
          have f1 : fitsB (px.length + 1) 32 := fits (by omega) (by omega)
          have e3 : r2.kd (j + 1) = ⟨ox, sx, px ++ [t]⟩ := by rw [e1]; simp [KdA.put, c1, c2]
          simp [hj, kfM, wM, hb]
          refine call_intro m6 ?_ ?_
          · simp [rfM, hb]
          simp [rfM, hb]
          refine call_intro m5 ?_ ?_
          · simp [rfM, hb]
          simp [rfM, c1, c1i, c2, c2i, f1, hw, Dgs_snoc]
          exact ⟨(), _, Weak.re0 1000 (by simp [kfM, e3, e2]), trivial⟩
    · have hbn := hbM hb M (by omega)
      have s1 := hsj hb
      have s2 := hsM hbn
      generalize r2.ds' j = q at *
      generalize r2.ds' M = p at *
      simp [hj, kfM, wM, hb]
      refine call_intro m6 ?_ ?_
      · simp [rfM, hb]
      simp [rfM, hb]
      refine call_intro m6 ?_ ?_
      · simp [rfM, hb]
      simp [rfM, hb]
      refine post_end (.inr rfl) ?_
      simp [Sig.avR, Sig.rows, Sig.zero, hb, hbn, s1, s2]
  · intro _ c _
    generalize r2.kd M = a at *
    generalize r2.ds' M = q at *
    have m6 := rgood_meets (G := G) q
    simp [kfM, wM]
    refine call_intro m6 ?_ ?_
    · simp [rfM]
    cases hb : q.bad
    · simp [rfM, hb]
      refine post_end (.inr rfl) ?_
      simp [Sig.avR, Sig.rows, hb]
    · simp [rfM, hb]
      refine post_end (.inr rfl) ?_
      simp [Sig.avR, Sig.rows, Sig.zero, hb]
end Go.Proofs.YtjlmpdbagmdbiaaDoor.WL

end
section
/-
  CHAPTER 13, 08, 14, 15: contracts of the reference: reading.
-/
namespace Go.Proofs.YtjlmpdbagmdbiaaDoor.WL
open Go
set_option maxHeartbeats 4000000
variable {G : Nat → Option AV}
attribute [local irreducible] sha
attribute [local irreducible] Rd.sig Rd.sig' Rd.blk Rd.blk' Rd.inn Rd.inn' Rd.dg Rd.dg' Rd.rep Rd.rep' repR

theorem rkread_frz (r : Rd) : Meets Tryd.prog G fn_r05_Read [.ptr 1000 0 0] (rfM r) false r.sig.avS (rfM r.sig') := by
  refine (rkread_meets r).freeze ⟨by simp [rfM], by simp [rfM], by simp [rfM]⟩ ?_
  simp [rfM, Sig.avR, Sig.avS, Sig.rows]
theorem rvread_meets (r : Rd) : Meets Tryd.prog G fn_r13_Read [.ptr 1000 0 0] (rfM r) false (voteF.rd r).av (rfM (voteF.rd' r)) := by
  refine meets_of_go mix k_r13_Read ⟨by simp [rfM], by simp [rfM], by simp [rfM]⟩ ?_
  rw [voteF_rd, voteF_rd']
  have m1 := rin_meets (G := G) r 1 2
  generalize r.inn 1 2 = a1 at *
  generalize r.inn' 1 2 = r1 at *
  have m2 := rin_meets (G := G) r1 0 1073741824
  generalize r1.inn 0 1073741824 = a2 at *
  generalize r1.inn' 0 1073741824 = r2 at *
  have m3 := rin_meets (G := G) r2 1 1024
  generalize r2.inn 1 1024 = a3 at *
  generalize r2.inn' 1 1024 = r3 at *
  have m4 := rin_meets (G := G) r3 0 1024
  generalize r3.inn 0 1024 = a4 at *
  generalize r3.inn' 0 1024 = r4 at *
  have m5 := rin_meets (G := G) r4 1 63
  generalize r4.inn 1 63 = a5 at *
  generalize r4.inn' 1 63 = r5 at *
  have m6 := rdigest_meets (G := G) r5
  generalize r5.dg = a6 at *
  generalize r5.dg' = r6 at *
  have m7 := rkread_frz (G := G) r6
  generalize r6.sig = a7 at *
  generalize r6.sig' = r7 at *
  have m8 := rgood_meets (G := G) r7
  simp [rfM]
  refine call_intro m1 ?_ ?_
  · simp [rfM]
  simp [rfM]
  refine call_intro m2 ?_ ?_
  · simp [rfM]
  simp [rfM]
  refine call_intro m3 ?_ ?_
  · simp [rfM]
  simp [rfM]
  refine call_intro m4 ?_ ?_
  · simp [rfM]
  simp [rfM]
  refine call_intro m5 ?_ ?_
  · simp [rfM]
  simp [rfM]
  refine call_intro m6 ?_ ?_
  · simp [rfM]
  simp [rfM]
  refine call_intro m7 ?_ ?_
  · simp [rfM]
  simp [rfM]
  refine call_intro m8 ?_ ?_
  · simp [rfM]
  simp [rfM]
  cases hb : r7.bad
  · simp [rfM, hb]
    refine post_end (.inr rfl) ?_
    simp [Vote.av, hb, dv]
  · simp [rfM, hb]
    refine post_end (.inr rfl) ?_
    simp [Vote.av, Vote.zero, Sig.avS, Sig.zero, hb, dv]
theorem Rd.flt_inn (r : Rd) (lo hi : Int) : (r.inn' lo hi).flt := by
  unfold Rd.inn'
  split
  · exact r.flt_skip 8
  · exact Rd.flt_fault
theorem rtread_meets (r : Rd) : Meets Tryd.prog G fn_r14_Read [.ptr 1000 0 0] (rfM r) false (certF.rd r).av (rfM (certF.rd' r)) := by
  refine meets_of_go mix k_r14_Read ⟨by simp [rfM], by simp [rfM], by simp [rfM]⟩ ?_
  rw [certF_rd, certF_rd']
  have hN : ((r.certN : Nat) : Int) = (r.inn' 0 1024).inn 1 10 ∧ r.certN ≤ 10 := by
    have := count10 (r.inn' 0 1024)
    unfold Rd.certN
    omega
  obtain ⟨hN, hN2⟩ := hN
  generalize r.certN = N at *
  have m1 := rin_meets (G := G) r 0 1024
  generalize r.inn 0 1024 = a1 at *
  generalize r.inn' 0 1024 = r1 at *
  have m2 := rin_meets (G := G) r1 1 10
  rw [← hN] at m2
  clear hN
  have hflt := r1.flt_inn 1 10
  generalize r1.inn' 1 10 = r2 at *
  simp [rfM]
  refine call_intro m1 ?_ ?_
  · simp [rfM]
  simp [rfM]
  refine call_intro m2 ?_ ?_
  · simp [rfM]
  simp [rfM]
  obtain ⟨L, hL⟩ : ∃ L : Nat → List Vote, ∀ i, L i = (repR (fun _ => voteF) r2 i).1 := ⟨_, fun _ => rfl⟩
  obtain ⟨R, hR⟩ : ∃ R : Nat → Rd, ∀ i, R i = (repR (fun _ => voteF) r2 i).2 := ⟨_, fun _ => rfl⟩
  have hL0 : L 0 = [] := by rw [hL]; simp only [repR]
  have hR0 : r2 = R 0 := by rw [hR]; simp only [repR]
  have hLl : ∀ i, (L i).length = i := fun i => by rw [hL]; exact repR_length _ r2 i
  have hst : ∀ j, j ≤ N → (R j).bad = true → R j = Rd.fault ∧ R N = Rd.fault := by
    intro j hj hb
    rw [hR] at hb
    exact ⟨by rw [hR]; exact repR_flt (fun _ => voteF_law) r2 hflt j hb, by rw [hR]; exact repR_stop (fun _ => voteF_law) r2 hflt j hb N hj⟩
  rw [← hL, ← hR]
  rw [hR0]
  refine go_up N (fun j (_ : Unit) => True) (fun j _ c => ⟨[(0, .ptr 1000 0 0), (2, .ptr 2 c 0), (3, .ptr 3 c 0), (4, .v (.int .i64 (N : Nat))), (5, .v (.int .i64 (j : Nat)))],
    [(2, .var c (.node [.v (.int .i64 0), .v (.slice none 0 0)])), (3, .var c (.node [.v (.int .i64 a1), .row 25 41 c 0 j])), (25, .rows c 41 (Votes (L j))),
     (1000, .var 0 (.node [.v (.string (mkS (R j).s)), .v (.bool (R j).bad)]))], c + 1⟩) () _ (Weak.re0 1000 (by simp [hL0])) trivial ?_ ?_
  · intro j _ c hj _
    have hw : IntKind.i64.wrap ((j : Int) + 1) = ((j + 1 : Nat) : Int) := w64_succ (by omega)
    have f1 : fitsB (j + 1) 152 := fits (by omega) (by omega)
    have e1 : L (j + 1) = L j ++ [voteF.rd (R j)] := by rw [hL, hL, hR]; simp only [repR]
    have e2 : R (j + 1) = voteF.rd' (R j) := by rw [hR, hR]; simp only [repR]
    have hlj := hLl j
    have hs := hst j (by omega)
    have m8 := rgood_meets (G := G) (R j)
    cases hb : (R j).bad
    · generalize R j = q at *
      have m3 := rvread_meets (G := G) q
      generalize voteF.rd q = v at *
      generalize voteF.rd' q = q1 at *
      generalize L j = x at *
      have hS := Votes_snoc x v
      rw [hb] at m8
      simp [hj]
      refine call_intro m8 ?_ ?_
      · simp [rfM, hb]
      simp [rfM, hb]
      refine call_intro m3 ?_ ?_
      · simp [rfM, hb]
      simp [rfM, f1, hlj, hS]
      simp [hw]
      exact ⟨(), _, Weak.re0 1000 (by simp [e1, e2]), trivial⟩
    · obtain ⟨k1, k2⟩ := hs hb
      rw [k2]
      rw [k1] at m8
      simp [hj, k1, Rd.fault]
      refine call_intro m8 ?_ ?_
      · simp [rfM, Rd.fault]
      simp [rfM, Rd.fault]
      refine call_intro m8 ?_ ?_
      · simp [rfM, Rd.fault]
      simp [rfM, Rd.fault]
      refine post_end (.inr rfl) ?_
      simp [Cert.av, Cert.zero]
  · intro _ c _
    have hlN := hLl N
    generalize R N = q at *
    generalize L N = x at *
    have m8 := rgood_meets (G := G) q
    have htx : List.take N x = x := List.take_of_length_le (by omega)
    simp [rfM]
    refine call_intro m8 ?_ ?_
    · simp [rfM]
    simp [rfM]
    cases hb : q.bad
    · simp [rfM, hb]
      refine post_end (.inr rfl) ?_
      simp [Cert.av, hb, hlN, htx]
    · simp [rfM, hb]
      refine post_end (.inr rfl) ?_
      simp [Cert.av, Cert.zero, hb]
end Go.Proofs.YtjlmpdbagmdbiaaDoor.WL

end
