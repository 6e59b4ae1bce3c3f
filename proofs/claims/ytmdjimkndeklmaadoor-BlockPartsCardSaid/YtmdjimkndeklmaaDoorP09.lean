/-
  CHAPTER 09: laws of requests and replies, without any program.
-/
import Derived.Test.YtmdjimkndeklmaaDoorP01b
namespace Go.Proofs.YtmdjimkndeklmaaDoor.WL
open Go

/-- A request that can come in. -/
structure Req.Fits (q : Req) : Prop where
  client : W64 q.client
  num : W64 q.num
  kind : W64 q.kind
  ckind : W64 q.ch.kind
  cid : W64 q.ch.id
  cnew : W64 q.ch.new
  cheight : W64 q.ch.height
  key : q.key.length < 4294967296
  val : q.val.length < 4294967296
  old : q.old.length < 4294967296
theorem Req.bytes_eq (q : Req) (y : Bytes) : q.bytes ++ y = be8 q.client ++ (be8 q.num ++ (be8 q.kind ++ (txt q.key ++ (txt q.val ++ (txt q.old ++ (be8 q.ch.kind ++ (be8 q.ch.id ++ (be8 q.ch.new ++ (be8 q.ch.height ++ (q.ch.root.bs ++ y)))))))))) := by
  simp [Req.bytes, nums, txts]
theorem Req.bytes_app {a b : Req} {x y : Bytes} (ha : a.Fits) (hb : b.Fits) (h : a.bytes ++ x = b.bytes ++ y) : a = b ∧ x = y := by
  rw [Req.bytes_eq, Req.bytes_eq] at h
  obtain ⟨c, n, k, ke, v, o, ⟨ck, ci, cn, cr, chh⟩⟩ := a
  obtain ⟨c', n', k', ke', v', o', ⟨ck', ci', cn', cr', chh'⟩⟩ := b
  obtain ⟨e1, h1⟩ := be8_app ha.client hb.client h
  obtain ⟨e2, h2⟩ := be8_app ha.num hb.num h1
  obtain ⟨e3, h3⟩ := be8_app ha.kind hb.kind h2
  obtain ⟨e4, h4⟩ := txt_app ha.key hb.key h3
  obtain ⟨e5, h5⟩ := txt_app ha.val hb.val h4
  obtain ⟨e6, h6⟩ := txt_app ha.old hb.old h5
  obtain ⟨e7, h7⟩ := be8_app ha.ckind hb.ckind h6
  obtain ⟨e8, h8⟩ := be8_app ha.cid hb.cid h7
  obtain ⟨e9, h9⟩ := be8_app ha.cnew hb.cnew h8
  obtain ⟨e10, h10⟩ := be8_app ha.cheight hb.cheight h9
  obtain ⟨e11, h11⟩ := dg_app h10
  simp only at e1 e2 e3 e4 e5 e6 e7 e8 e9 e10 e11
  subst e1 e2 e3 e4 e5 e6 e7 e8 e9 e10 e11
  exact ⟨rfl, h11⟩
theorem Req.bytes_inj {a b : Req} (ha : a.Fits) (hb : b.Fits) : a.bytes = b.bytes ↔ a = b := by
  constructor
  · intro h
    exact (Req.bytes_app (x := []) (y := []) ha hb (by rw [h])).1
  · rintro rfl; rfl
/-- A request is read as it was written, just if it can be. -/
theorem rd_req (pre y : Bytes) (q : Req) (h : q.Fits) (hg : q.good = true) : (⟨pre, q.bytes ++ y, false⟩ : Rd).req = q ∧ (⟨pre, q.bytes ++ y, false⟩ : Rd).req' = ⟨pre ++ q.bytes, y, false⟩ := by
  have hg' := hg
  simp only [Req.good, Bool.and_eq_true, decide_eq_true_eq] at hg'
  obtain ⟨⟨⟨⟨⟨⟨g1, g2⟩, g3⟩, g4⟩, g5⟩, g6⟩, ⟨g7, g8⟩, g9⟩ := hg'
  have e1 := rd_in pre (be8 q.num ++ (be8 q.kind ++ (txt q.key ++ (txt q.val ++ (txt q.old ++ (be8 q.ch.kind ++ (be8 q.ch.id ++ (be8 q.ch.new ++ (be8 q.ch.height ++ (q.ch.root.bs ++ y)))))))))) q.client 1 64 h.client ⟨g1, g2⟩
  have e2 := rd_in (pre ++ be8 q.client) (be8 q.kind ++ (txt q.key ++ (txt q.val ++ (txt q.old ++ (be8 q.ch.kind ++ (be8 q.ch.id ++ (be8 q.ch.new ++ (be8 q.ch.height ++ (q.ch.root.bs ++ y))))))))) q.num 1 1099511627776 h.num ⟨g3, g4⟩
  have e3 := rd_in (pre ++ be8 q.client ++ be8 q.num) (txt q.key ++ (txt q.val ++ (txt q.old ++ (be8 q.ch.kind ++ (be8 q.ch.id ++ (be8 q.ch.new ++ (be8 q.ch.height ++ (q.ch.root.bs ++ y)))))))) q.kind 1 7 h.kind ⟨g5, g6⟩
  have e4 := rd_text (pre ++ be8 q.client ++ be8 q.num ++ be8 q.kind) (txt q.val ++ (txt q.old ++ (be8 q.ch.kind ++ (be8 q.ch.id ++ (be8 q.ch.new ++ (be8 q.ch.height ++ (q.ch.root.bs ++ y))))))) q.key 1024 h.key (by omega)
  have e5 := rd_text (pre ++ be8 q.client ++ be8 q.num ++ be8 q.kind ++ txt q.key) (txt q.old ++ (be8 q.ch.kind ++ (be8 q.ch.id ++ (be8 q.ch.new ++ (be8 q.ch.height ++ (q.ch.root.bs ++ y)))))) q.val 1024 h.val (by omega)
  have e6 := rd_text (pre ++ be8 q.client ++ be8 q.num ++ be8 q.kind ++ txt q.key ++ txt q.val) (be8 q.ch.kind ++ (be8 q.ch.id ++ (be8 q.ch.new ++ (be8 q.ch.height ++ (q.ch.root.bs ++ y))))) q.old 1024 h.old (by omega)
  have e7 := rd_num (pre ++ be8 q.client ++ be8 q.num ++ be8 q.kind ++ txt q.key ++ txt q.val ++ txt q.old) (be8 q.ch.id ++ (be8 q.ch.new ++ (be8 q.ch.height ++ (q.ch.root.bs ++ y)))) q.ch.kind h.ckind
  have e8 := rd_num (pre ++ be8 q.client ++ be8 q.num ++ be8 q.kind ++ txt q.key ++ txt q.val ++ txt q.old ++ be8 q.ch.kind) (be8 q.ch.new ++ (be8 q.ch.height ++ (q.ch.root.bs ++ y))) q.ch.id h.cid
  have e9 := rd_num (pre ++ be8 q.client ++ be8 q.num ++ be8 q.kind ++ txt q.key ++ txt q.val ++ txt q.old ++ be8 q.ch.kind ++ be8 q.ch.id) (be8 q.ch.height ++ (q.ch.root.bs ++ y)) q.ch.new h.cnew
  have e10 := rd_num (pre ++ be8 q.client ++ be8 q.num ++ be8 q.kind ++ txt q.key ++ txt q.val ++ txt q.old ++ be8 q.ch.kind ++ be8 q.ch.id ++ be8 q.ch.new) (q.ch.root.bs ++ y) q.ch.height h.cheight
  have e11 := rd_dg (pre ++ be8 q.client ++ be8 q.num ++ be8 q.kind ++ txt q.key ++ txt q.val ++ txt q.old ++ be8 q.ch.kind ++ be8 q.ch.id ++ be8 q.ch.new ++ be8 q.ch.height) y q.ch.root
  rw [Req.bytes_eq]
  unfold Rd.req Rd.req0 Rd.req' Rd.q10 Rd.q9 Rd.q8 Rd.q7 Rd.q6 Rd.q5 Rd.q4 Rd.q3 Rd.q2 Rd.q1
  simp only [e1, e2, e3, e4, e5, e6, e7, e8, e9, e10, e11]
  refine ⟨rfl, ?_⟩
  have := Req.bytes_eq q []
  simp only [List.append_nil] at this
  rw [this]
  simp
/-- Another one is a fault. -/
theorem rd_req_no (pre y : Bytes) (q : Req) (h : q.Fits) (hg : q.good = false) : (⟨pre, q.bytes ++ y, false⟩ : Rd).req'.bad = true := by
  rw [Req.bytes_eq]
  have fin : ∀ r : Rd, (r.q1 = Rd.fault ∨ r.q2 = Rd.fault ∨ r.q3 = Rd.fault ∨ r.q4 = Rd.fault ∨ r.q5 = Rd.fault ∨ r.q6 = Rd.fault) → r.req'.bad = true := by
    intro r hr
    have k2 : r.q1 = Rd.fault → r.q2 = Rd.fault := fun e => by unfold Rd.q2; rw [e]; exact Rd.inn_bad _ _ _ rfl
    have k3 : r.q2 = Rd.fault → r.q3 = Rd.fault := fun e => by unfold Rd.q3; rw [e]; exact Rd.inn_bad _ _ _ rfl
    have k4 : r.q3 = Rd.fault → r.q4 = Rd.fault := fun e => by unfold Rd.q4; rw [e]; exact Rd.text_bad _ _ rfl
    have k5 : r.q4 = Rd.fault → r.q5 = Rd.fault := fun e => by unfold Rd.q5; rw [e]; exact Rd.text_bad _ _ rfl
    have k6 : r.q5 = Rd.fault → r.q6 = Rd.fault := fun e => by unfold Rd.q6; rw [e]; exact Rd.text_bad _ _ rfl
    have h6 : r.q6 = Rd.fault := by
      rcases hr with e | e | e | e | e | e
      · exact k6 (k5 (k4 (k3 (k2 e))))
      · exact k6 (k5 (k4 (k3 e)))
      · exact k6 (k5 (k4 e))
      · exact k6 (k5 e)
      · exact k6 e
      · exact e
    have e7 : r.q7 = Rd.fault := by unfold Rd.q7; rw [h6]; exact Rd.num_bad _ rfl
    have e8 : r.q8 = Rd.fault := by unfold Rd.q8; rw [e7]; exact Rd.num_bad _ rfl
    have e9 : r.q9 = Rd.fault := by unfold Rd.q9; rw [e8]; exact Rd.num_bad _ rfl
    have e10 : r.q10 = Rd.fault := by unfold Rd.q10; rw [e9]; exact Rd.num_bad _ rfl
    unfold Rd.req'
    rw [e10, Rd.dg_bad _ rfl]
    rfl
  apply fin
  unfold Rd.q6 Rd.q5 Rd.q4 Rd.q3 Rd.q2 Rd.q1
  by_cases c1 : 1 ≤ q.client ∧ q.client ≤ 64
  · rw [(rd_in _ _ q.client 1 64 h.client c1).2]
    by_cases c2 : 1 ≤ q.num ∧ q.num ≤ 1099511627776
    · rw [(rd_in _ _ q.num 1 1099511627776 h.num c2).2]
      by_cases c3 : 1 ≤ q.kind ∧ q.kind ≤ 7
      · rw [(rd_in _ _ q.kind 1 7 h.kind c3).2]
        by_cases c4 : (q.key.length : Int) ≤ 1024
        · rw [(rd_text _ _ q.key 1024 h.key c4).2]
          by_cases c5 : (q.val.length : Int) ≤ 1024
          · rw [(rd_text _ _ q.val 1024 h.val c5).2]
            have c6 : 1024 < (q.old.length : Int) := by
              rcases Int.lt_or_le 1024 (q.old.length : Int) with k | k
              · exact k
              · exfalso
                simp only [Req.good, Bool.and_eq_false_iff, decide_eq_false_iff_not] at hg
                omega
            right; right; right; right; right
            exact rd_text_no _ _ q.old 1024 h.old c6
          · right; right; right; right; left
            exact rd_text_no _ _ q.val 1024 h.val (by omega)
        · right; right; right; left
          exact rd_text_no _ _ q.key 1024 h.key (by omega)
      · right; right; left
        exact rd_in_no _ _ q.kind 1 7 h.kind c3
    · right; left
      exact rd_in_no _ _ q.num 1 1099511627776 h.num c2
  · left
    exact rd_in_no _ _ q.client 1 64 h.client c1
theorem req_back (q : Req) (h : q.Fits) : (Rd.of q.bytes).req'.done = q.good ∧ (q.good = true → (Rd.of q.bytes).req = q) := by
  have e : Rd.of q.bytes = ⟨[], q.bytes ++ [], false⟩ := by simp [Rd.of]
  rw [e]
  cases hg : q.good
  · refine ⟨?_, fun k => by cases k⟩
    unfold Rd.done
    rw [rd_req_no [] [] q h hg]
    rfl
  · have := rd_req [] [] q h hg
    refine ⟨?_, fun _ => this.1⟩
    rw [this.2]
    rfl

/-- A reply that can come in. -/
structure Rep.Fits (a : Rep) : Prop where
  client : W64 a.client
  num : W64 a.num
  code : W64 a.code
  len : a.vals.length < 4611686018427387904
  vals : ∀ v ∈ a.vals, v.length < 4294967296
theorem Rep.bytes_inj {a b : Rep} (ha : a.Fits) (hb : b.Fits) : a.bytes = b.bytes ↔ a = b := by
  constructor
  · intro h
    obtain ⟨c, n, k, vs⟩ := a
    obtain ⟨c', n', k', vs'⟩ := b
    have e : ∀ (c n k : Int) (vs : List Bytes), Rep.bytes ⟨c, n, k, vs⟩ = be8 c ++ (be8 n ++ (be8 k ++ (be8 (vs.length : Int) ++ (txts vs ++ [])))) := fun c n k vs => by simp [Rep.bytes, nums]
    rw [e, e] at h
    obtain ⟨e1, h1⟩ := be8_app ha.client hb.client h
    obtain ⟨e2, h2⟩ := be8_app ha.num hb.num h1
    obtain ⟨e3, h3⟩ := be8_app ha.code hb.code h2
    have l1 := ha.len
    have l2 := hb.len
    simp only at l1 l2
    obtain ⟨hl, h4⟩ := be8_app (by unfold W64; omega) (by unfold W64; omega) h3
    obtain ⟨e5, _⟩ := txts_app ha.vals hb.vals (by dsimp only; omega) h4
    simp only at e1 e2 e3 e5
    subst e1 e2 e3 e5
    rfl
  · rintro rfl; rfl
end Go.Proofs.YtmdjimkndeklmaaDoor.WL
