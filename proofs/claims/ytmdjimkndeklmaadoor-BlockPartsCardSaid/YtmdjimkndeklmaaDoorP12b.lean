/-
  CHAPTER 12: blocks whose bytes are cut, or have more behind them. Without any program.
-/
import Derived.Test.YtmdjimkndeklmaaDoorP12
namespace Go.Proofs.YtmdjimkndeklmaaDoor.WL
open Go

theorem bad_of_inn {r : Rd} {lo hi : Int} (h : (r.inn' lo hi).bad = false) : r.bad = false := by
  cases hb : r.bad
  · rfl
  · rw [r.inn_bad lo hi hb] at h; cases h
theorem bad_of_text {r : Rd} {mx : Int} (h : (r.text' mx).bad = false) : r.bad = false := by
  cases hb : r.bad
  · rfl
  · rw [r.text_bad mx hb] at h; cases h
theorem bad_of_num {r : Rd} (h : r.num'.bad = false) : r.bad = false := by
  cases hb : r.bad
  · rfl
  · rw [r.num_bad hb] at h; cases h
theorem bad_of_dg {r : Rd} (h : r.dg'.bad = false) : r.bad = false := by
  cases hb : r.bad
  · rfl
  · rw [r.dg_bad hb] at h; cases h
theorem bad_of_req {r : Rd} (h : r.req'.bad = false) : r.bad = false := by
  cases hb : r.bad
  · rfl
  · rw [r.req_bad hb] at h; cases h
theorem ext_req {r : Rd} (t : Bytes) (h : r.req'.bad = false) : (r.ext t).req' = r.req'.ext t ∧ (r.ext t).req = r.req := by
  have h10 : r.q10.bad = false := bad_of_dg h
  have h9 : r.q9.bad = false := bad_of_num h10
  have h8 : r.q8.bad = false := bad_of_num h9
  have h7 : r.q7.bad = false := bad_of_num h8
  have h6 : r.q6.bad = false := bad_of_num h7
  have h5 : r.q5.bad = false := bad_of_text h6
  have h4 : r.q4.bad = false := bad_of_text h5
  have h3 : r.q3.bad = false := bad_of_text h4
  have h2 : r.q2.bad = false := bad_of_inn h3
  have h1 : r.q1.bad = false := bad_of_inn h2
  have e1 := ext_in t h1
  have e2 := ext_in t h2
  have e3 := ext_in t h3
  have e4 := ext_text t h4
  have e5 := ext_text t h5
  have e6 := ext_text t h6
  have e7 := ext_num t h7
  have e8 := ext_num t h8
  have e9 := ext_num t h9
  have e10 := ext_num t h10
  have e11 := ext_dg t h
  have f1 : (r.ext t).q1 = r.q1.ext t := e1.1
  have f2 : (r.ext t).q2 = r.q2.ext t := by unfold Rd.q2; rw [f1]; exact e2.1
  have f3 : (r.ext t).q3 = r.q3.ext t := by unfold Rd.q3; rw [f2]; exact e3.1
  have f4 : (r.ext t).q4 = r.q4.ext t := by unfold Rd.q4; rw [f3]; exact e4.1
  have f5 : (r.ext t).q5 = r.q5.ext t := by unfold Rd.q5; rw [f4]; exact e5.1
  have f6 : (r.ext t).q6 = r.q6.ext t := by unfold Rd.q6; rw [f5]; exact e6.1
  have f7 : (r.ext t).q7 = r.q7.ext t := by unfold Rd.q7; rw [f6]; exact e7.1
  have f8 : (r.ext t).q8 = r.q8.ext t := by unfold Rd.q8; rw [f7]; exact e8.1
  have f9 : (r.ext t).q9 = r.q9.ext t := by unfold Rd.q9; rw [f8]; exact e9.1
  have f10 : (r.ext t).q10 = r.q10.ext t := by unfold Rd.q10; rw [f9]; exact e10.1
  have f11 : (r.ext t).req' = r.req'.ext t := by unfold Rd.req'; rw [f10]; exact e11.1
  refine ⟨f11, ?_⟩
  have hr0 : (r.ext t).req0 = r.req0 := by
    unfold Rd.req0
    rw [f1, f2, f3, f4, f5, f6, f7, f8, f9, f10, e1.2, e2.2, e3.2, e4.2, e5.2, e6.2, e7.2, e8.2, e9.2, e10.2, e11.2]
  unfold Rd.req
  rw [f11, hr0, Rd.ext_bad]
theorem bad_of_rq {r : Rd} {k n : Nat} (h : (r.rq' n).bad = false) (hk : k ≤ n) : (r.rq' k).bad = false := by
  cases hb : (r.rq' k).bad
  · rfl
  · rw [r.rq_bad k hb n hk] at h; cases h
theorem ext_rq {r : Rd} (t : Bytes) : ∀ n, (r.rq' n).bad = false → (r.ext t).rq' n = (r.rq' n).ext t ∧ (r.ext t).rq n = r.rq n
  | 0, _ => ⟨rfl, rfl⟩
  | n + 1, h => by
    have hn : (r.rq' n).bad = false := bad_of_rq h (by omega)
    obtain ⟨i1, i2⟩ := ext_rq t n hn
    have e := ext_req t (r := r.rq' n) h
    simp only [Rd.rq, Rd.rq', i1, i2]
    exact ⟨e.1, by rw [e.2]⟩
theorem ext_blk {r : Rd} (t : Bytes) (h : r.blk'.bad = false) : (r.ext t).blk' = r.blk'.ext t ∧ (r.ext t).blk = r.blk := by
  have h6 : r.b6.bad = false := bad_of_rq (k := 0) h (Nat.zero_le _)
  have h5 : r.b5.bad = false := bad_of_inn h6
  have h4 : r.b4.bad = false := bad_of_dg h5
  have h3 : r.b3.bad = false := bad_of_dg h4
  have h2 : r.b2.bad = false := bad_of_dg h3
  have h1 : r.b1.bad = false := bad_of_inn h2
  have e1 := ext_in t h1
  have e2 := ext_in t h2
  have e3 := ext_dg t h3
  have e4 := ext_dg t h4
  have e5 := ext_dg t h5
  have e6 := ext_in t h6
  have f1 : (r.ext t).b1 = r.b1.ext t := e1.1
  have f2 : (r.ext t).b2 = r.b2.ext t := by unfold Rd.b2; rw [f1]; exact e2.1
  have f3 : (r.ext t).b3 = r.b3.ext t := by unfold Rd.b3; rw [f2]; exact e3.1
  have f4 : (r.ext t).b4 = r.b4.ext t := by unfold Rd.b4; rw [f3]; exact e4.1
  have f5 : (r.ext t).b5 = r.b5.ext t := by unfold Rd.b5; rw [f4]; exact e5.1
  have f6 : (r.ext t).b6 = r.b6.ext t := by unfold Rd.b6; rw [f5]; exact e6.1
  have fN : (r.ext t).blkN = r.blkN := by unfold Rd.blkN; rw [f5, e6.2]
  obtain ⟨g1, g2⟩ := ext_rq t r.blkN (r := r.b6) h
  have f7 : (r.ext t).blk' = r.blk'.ext t := by unfold Rd.blk'; rw [f6, fN]; exact g1
  refine ⟨f7, ?_⟩
  have hr0 : (r.ext t).blk0 = r.blk0 := by
    unfold Rd.blk0
    rw [f1, f2, f3, f4, f6, fN, e1.2, e2.2, e3.2, e4.2, e5.2, g2]
  unfold Rd.blk
  rw [f7, hr0, Rd.ext_bad]
/-- A cut is no block's. -/
theorem blk_cut (b : Blk) (h : b.Fits) (hg : b.good = true) (k : Nat) (hk : k < b.bytes.length) : (Rd.of (b.bytes.take k)).blk'.bad = true ∧ (Rd.of (b.bytes.take k)).blk = Blk.zero := by
  have hb : (Rd.of (b.bytes.take k)).blk'.bad = true := by
    cases hb : (Rd.of (b.bytes.take k)).blk'.bad
    case true => rfl
    exfalso
    have e := (ext_blk (b.bytes.drop k) hb).1
    have e2 : (Rd.of (b.bytes.take k)).ext (b.bytes.drop k) = ⟨[], b.bytes ++ [], false⟩ := by simp [Rd.of, Rd.ext]
    rw [e2, (rd_blk [] [] b h hg).2] at e
    have e3 := congrArg Rd.s e
    have e4 : ([] : Bytes) = (Rd.of (b.bytes.take k)).blk'.s ++ b.bytes.drop k := e3
    have e5 := congrArg List.length e4
    rw [List.length_append, List.length_drop, List.length_nil] at e5
    omega
  refine ⟨hb, ?_⟩
  unfold Rd.blk
  rw [hb]
  rfl
theorem blk_more (b : Blk) (h : b.Fits) (hg : b.good = true) (t : Bytes) : (Rd.of (b.bytes ++ t)).blk = b ∧ (Rd.of (b.bytes ++ t)).blk' = ⟨b.bytes, t, false⟩ := by
  have := rd_blk [] t b h hg
  simpa [Rd.of] using this
theorem blk_back (q : Blk) (h : q.Fits) : (Rd.of q.bytes).blk'.done = q.good ∧ (q.good = true → (Rd.of q.bytes).blk = q) := by
  have e : Rd.of q.bytes = ⟨[], q.bytes ++ [], false⟩ := by simp [Rd.of]
  rw [e]
  cases hg : q.good
  · refine ⟨?_, fun k => by cases k⟩
    unfold Rd.done
    rw [rd_blk_no [] [] q h hg]
    rfl
  · have := rd_blk [] [] q h hg
    refine ⟨?_, fun _ => this.1⟩
    rw [this.2]
    rfl
end Go.Proofs.YtmdjimkndeklmaaDoor.WL
