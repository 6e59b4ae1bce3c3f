/-
  CHAPTER 12: laws of blocks, without any program.
-/
import Derived.Test.YtmdjimkndeklmaaDoorP09
import Derived.Test.YtmdjimkndeklmaaDoorM12
namespace Go.Proofs.YtmdjimkndeklmaaDoor.WL
open Go

/-- A block that can come in. -/
structure Blk.Fits (b : Blk) : Prop where
  epoch : W64 b.epoch
  height : W64 b.height
  len : b.qs.length < 4611686018427387904
  qs : ∀ q ∈ b.qs, q.Fits
theorem reqsB_cons (c : Req) (cs : List Req) : reqsB (c :: cs) = c.bytes ++ reqsB cs := by simp [reqsB]
theorem reqsB_app : ∀ {as bs : List Req} {x y : Bytes}, (∀ a ∈ as, a.Fits) → (∀ b ∈ bs, b.Fits) → as.length = bs.length → reqsB as ++ x = reqsB bs ++ y → as = bs ∧ x = y
  | [], [], x, y, _, _, _, h => ⟨rfl, by simpa [reqsB] using h⟩
  | a :: as, b :: bs, x, y, ha, hb, hl, h => by
    have e : ∀ (c : Req) (cs : List Req), reqsB (c :: cs) = c.bytes ++ reqsB cs := fun _ _ => by simp [reqsB]
    rw [e, e, List.append_assoc, List.append_assoc] at h
    obtain ⟨e1, h1⟩ := Req.bytes_app (ha a (by simp)) (hb b (by simp)) h
    obtain ⟨e2, h2⟩ := reqsB_app (fun c hc => ha c (by simp [hc])) (fun c hc => hb c (by simp [hc])) (by simpa using hl) h1
    exact ⟨by rw [e1, e2], h2⟩
theorem Blk.bytes_eq (b : Blk) (y : Bytes) : b.bytes ++ y = be8 b.epoch ++ (be8 b.height ++ (b.prev.bs ++ (b.state.bs ++ (b.next.bs ++ (be8 (b.qs.length : Int) ++ (reqsB b.qs ++ y)))))) := by
  simp [Blk.bytes, Blk.head, nums, flatD]
theorem w64_len {n : Nat} (h : n < 4611686018427387904) : W64 (n : Int) := by
  unfold W64; omega
theorem Blk.bytes_app {a b : Blk} {x y : Bytes} (ha : a.Fits) (hb : b.Fits) (h : a.bytes ++ x = b.bytes ++ y) : a = b ∧ x = y := by
  rw [Blk.bytes_eq, Blk.bytes_eq] at h
  obtain ⟨e1, h1⟩ := be8_app ha.epoch hb.epoch h
  obtain ⟨e2, h2⟩ := be8_app ha.height hb.height h1
  obtain ⟨e3, h3⟩ := dg_app h2
  obtain ⟨e4, h4⟩ := dg_app h3
  obtain ⟨e5, h5⟩ := dg_app h4
  obtain ⟨e6, h6⟩ := be8_app (w64_len ha.len) (w64_len hb.len) h5
  obtain ⟨e7, h7⟩ := reqsB_app ha.qs hb.qs (by omega) h6
  cases a; cases b
  simp only at e1 e2 e3 e4 e5 e7
  subst e1 e2 e3 e4 e5 e7
  exact ⟨rfl, h7⟩
theorem Blk.bytes_inj {a b : Blk} (ha : a.Fits) (hb : b.Fits) : a.bytes = b.bytes ↔ a = b := by
  constructor
  · intro h
    exact (Blk.bytes_app (x := []) (y := []) ha hb (by rw [h])).1
  · rintro rfl; rfl
/-- So many requests are read as they were written. -/
theorem rd_rq (pre y : Bytes) (qs : List Req) (hf : ∀ q ∈ qs, q.Fits) : ∀ k, k ≤ qs.length → (∀ q ∈ qs.take k, q.good = true) →
    (⟨pre, reqsB qs ++ y, false⟩ : Rd).rq k = qs.take k ∧ (⟨pre, reqsB qs ++ y, false⟩ : Rd).rq' k = ⟨pre ++ reqsB (qs.take k), reqsB (qs.drop k) ++ y, false⟩
  | 0, _, _ => by simp [Rd.rq, Rd.rq', reqsB]
  | k + 1, hk, hg => by
    have hk' : k < qs.length := by omega
    have ht : qs.take (k + 1) = qs.take k ++ [qs[k]] := List.take_succ_eq_append_getElem hk'
    obtain ⟨i1, i2⟩ := rd_rq pre y qs hf k (by omega) (fun q hq => hg q (by rw [ht]; exact List.mem_append_left _ hq))
    have hq := hg qs[k] (by rw [ht]; exact List.mem_append_right _ (List.mem_singleton.2 rfl))
    have hd : reqsB (qs.drop k) = qs[k].bytes ++ reqsB (qs.drop (k + 1)) := by
      rw [List.drop_eq_getElem_cons hk', reqsB_cons]
    have := rd_req (pre ++ reqsB (qs.take k)) (reqsB (qs.drop (k + 1)) ++ y) qs[k] (hf _ (List.getElem_mem hk')) hq
    rw [← List.append_assoc, ← hd] at this
    simp only [Rd.rq, Rd.rq', i1, i2, this, ht, reqsB_snoc, List.append_assoc, and_self]
theorem rd_rq_no (pre y : Bytes) (qs : List Req) (hf : ∀ q ∈ qs, q.Fits) (hg : qs.all Req.good = false) : ((⟨pre, reqsB qs ++ y, false⟩ : Rd).rq' qs.length).bad = true := by
  have key : ∀ k, k ≤ qs.length → (∀ q ∈ qs.take k, q.good = true) ∨ ((⟨pre, reqsB qs ++ y, false⟩ : Rd).rq' k).bad = true := by
    intro k
    induction k with
    | zero => intro _; left; simp
    | succ k ih =>
      intro hk
      have hk' : k < qs.length := by omega
      have ht : qs.take (k + 1) = qs.take k ++ [qs[k]] := List.take_succ_eq_append_getElem hk'
      rcases ih (by omega) with h | h
      · cases hq : qs[k].good
        · right
          obtain ⟨i1, i2⟩ := rd_rq pre y qs hf k (by omega) h
          have hd : reqsB (qs.drop k) = qs[k].bytes ++ reqsB (qs.drop (k + 1)) := by
            rw [List.drop_eq_getElem_cons hk', reqsB_cons]
          have := rd_req_no (pre ++ reqsB (qs.take k)) (reqsB (qs.drop (k + 1)) ++ y) qs[k] (hf _ (List.getElem_mem hk')) hq
          rw [← List.append_assoc, ← hd] at this
          simp only [Rd.rq', i2]
          exact this
        · left
          intro q hq'
          rw [ht, List.mem_append, List.mem_singleton] at hq'
          rcases hq' with h1 | rfl
          · exact h q h1
          · exact hq
      · right
        exact Rd.rq_bad _ k h (k + 1) (by omega)
  rcases key qs.length (Nat.le_refl _) with h | h
  · rw [List.take_length] at h
    rw [List.all_eq_true.2 h] at hg
    cases hg
  · exact h
theorem rd_blk (pre y : Bytes) (b : Blk) (h : b.Fits) (hg : b.good = true) : (⟨pre, b.bytes ++ y, false⟩ : Rd).blk = b ∧ (⟨pre, b.bytes ++ y, false⟩ : Rd).blk' = ⟨pre ++ b.bytes, y, false⟩ := by
  have hg' := hg
  simp only [Blk.good, Bool.and_eq_true, decide_eq_true_eq] at hg'
  obtain ⟨⟨⟨⟨⟨g1, g2⟩, g3⟩, g4⟩, g5⟩, g6⟩ := hg'
  rw [List.all_eq_true] at g6
  have hpre : pre ++ b.bytes = pre ++ be8 b.epoch ++ be8 b.height ++ b.prev.bs ++ b.state.bs ++ b.next.bs ++ be8 (b.qs.length : Int) ++ reqsB b.qs := by
    have := b.bytes_eq []
    rw [List.append_nil] at this
    rw [this]; simp
  rw [Blk.bytes_eq, hpre]
  have e1 := rd_in pre (be8 b.height ++ (b.prev.bs ++ (b.state.bs ++ (b.next.bs ++ (be8 (b.qs.length : Int) ++ (reqsB b.qs ++ y)))))) b.epoch 0 1073741824 h.epoch ⟨g1, g2⟩
  have e2 := rd_in (pre ++ be8 b.epoch) (b.prev.bs ++ (b.state.bs ++ (b.next.bs ++ (be8 (b.qs.length : Int) ++ (reqsB b.qs ++ y))))) b.height 1 1024 h.height ⟨g3, g4⟩
  have e3 := rd_dg (pre ++ be8 b.epoch ++ be8 b.height) (b.state.bs ++ (b.next.bs ++ (be8 (b.qs.length : Int) ++ (reqsB b.qs ++ y)))) b.prev
  have e4 := rd_dg (pre ++ be8 b.epoch ++ be8 b.height ++ b.prev.bs) (b.next.bs ++ (be8 (b.qs.length : Int) ++ (reqsB b.qs ++ y))) b.state
  have e5 := rd_dg (pre ++ be8 b.epoch ++ be8 b.height ++ b.prev.bs ++ b.state.bs) (be8 (b.qs.length : Int) ++ (reqsB b.qs ++ y)) b.next
  have e6 := rd_in (pre ++ be8 b.epoch ++ be8 b.height ++ b.prev.bs ++ b.state.bs ++ b.next.bs) (reqsB b.qs ++ y) (b.qs.length : Int) 0 8 (w64_len h.len) (by omega)
  have e7 := rd_rq (pre ++ be8 b.epoch ++ be8 b.height ++ b.prev.bs ++ b.state.bs ++ b.next.bs ++ be8 (b.qs.length : Int)) y b.qs h.qs b.qs.length (Nat.le_refl _) (by rw [List.take_length]; exact g6)
  rw [List.take_length, List.drop_length, show reqsB [] = [] from rfl, List.nil_append] at e7
  have hn : (b.qs.length : Int).toNat = b.qs.length := by omega
  simp only [Rd.blk, Rd.blk', Rd.blk0, Rd.blkN, Rd.b6, Rd.b5, Rd.b4, Rd.b3, Rd.b2, Rd.b1, e1, e2, e3, e4, e5, e6, hn, e7]
  simp
theorem rd_blk_no (pre y : Bytes) (b : Blk) (h : b.Fits) (hg : b.good = false) : (⟨pre, b.bytes ++ y, false⟩ : Rd).blk'.bad = true := by
  rw [Blk.bytes_eq]
  have fin : ∀ r : Rd, (r.b1 = Rd.fault ∨ r.b2 = Rd.fault ∨ r.b6 = Rd.fault) → r.blk'.bad = true := by
    intro r hr
    have k2 : r.b1 = Rd.fault → r.b2 = Rd.fault := fun e => by unfold Rd.b2; rw [e]; exact Rd.inn_bad _ _ _ rfl
    have k3 : r.b2 = Rd.fault → r.b6 = Rd.fault := fun e => by
      unfold Rd.b6 Rd.b5 Rd.b4 Rd.b3
      rw [e]
      simp only [Rd.dg_bad Rd.fault rfl]
      exact Rd.inn_bad _ _ _ rfl
    have h6 : r.b6 = Rd.fault := by
      rcases hr with e | e | e
      · exact k3 (k2 e)
      · exact k3 e
      · exact e
    unfold Rd.blk'
    exact Rd.rq_bad _ 0 (by rw [h6]; rfl) _ (Nat.zero_le _)
  by_cases c1 : 0 ≤ b.epoch ∧ b.epoch ≤ 1073741824
  case neg => exact fin _ (.inl (rd_in_no _ _ b.epoch 0 1073741824 h.epoch c1))
  by_cases c2 : 1 ≤ b.height ∧ b.height ≤ 1024
  case neg =>
    apply fin
    right; left
    unfold Rd.b2 Rd.b1
    rw [(rd_in _ _ b.epoch 0 1073741824 h.epoch c1).2]
    exact rd_in_no _ _ b.height 1 1024 h.height c2
  by_cases c3 : 0 ≤ (b.qs.length : Int) ∧ (b.qs.length : Int) ≤ 8
  case neg =>
    apply fin
    right; right
    unfold Rd.b6 Rd.b5 Rd.b4 Rd.b3 Rd.b2 Rd.b1
    rw [(rd_in _ _ b.epoch 0 1073741824 h.epoch c1).2, (rd_in _ _ b.height 1 1024 h.height c2).2, (rd_dg _ _ b.prev).2, (rd_dg _ _ b.state).2, (rd_dg _ _ b.next).2]
    exact rd_in_no _ _ (b.qs.length : Int) 0 8 (w64_len h.len) c3
  have hall : b.qs.all Req.good = false := by
    cases ha : b.qs.all Req.good
    · rfl
    · have : b.good = true := by simp only [Blk.good, ha, Bool.and_true, Bool.and_eq_true, decide_eq_true_eq]; omega
      rw [this] at hg; cases hg
  unfold Rd.blk' Rd.blkN Rd.b6 Rd.b5 Rd.b4 Rd.b3 Rd.b2 Rd.b1
  have e6 := fun p : Bytes => rd_in p (reqsB b.qs ++ y) (b.qs.length : Int) 0 8 (w64_len h.len) c3
  have hn : (b.qs.length : Int).toNat = b.qs.length := by omega
  rw [(rd_in _ _ b.epoch 0 1073741824 h.epoch c1).2, (rd_in _ _ b.height 1 1024 h.height c2).2, (rd_dg _ _ b.prev).2, (rd_dg _ _ b.state).2, (rd_dg _ _ b.next).2, (e6 _).2, (e6 _).1, hn]
  exact rd_rq_no _ _ b.qs h.qs hall
end Go.Proofs.YtmdjimkndeklmaaDoor.WL
