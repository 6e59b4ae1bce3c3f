
import Derived.Test.YtjlmpdbagmdbiaaDoorWm13
import Derived.Test.YtjlmpdbagmdbiaaDoorRows
import Derived.ProofKit
import Derived.LaidMore
import Derived.Lib.LaidTab
section
namespace Go.Proofs.YtjlmpdbagmdbiaaDoor.WL
open Go
set_option maxHeartbeats 4000000
variable {G : Nat → Option AV}
attribute [local irreducible] sha
attribute [local irreducible] Rd.sig Rd.sig' Rd.blk Rd.blk' Rd.inn Rd.inn' Rd.dg Rd.dg' Rd.rep Rd.rep' repR
def Sig.small (s : Sig) : Prop := s.op.length ≤ 1000 ∧ s.sh.length ≤ 1000 ∧ s.path.length ≤ 1000
theorem JLd (s : Sig) (h : s.small) : Meets Tryd.prog G JjQ [s.avS, s.avS] [] true (.v (.bool true)) [] := by
  obtain ⟨h1, h2, h3⟩ := h
  have := JGw (G := G) s s (by omega) (by omega) (by omega)
  have e : s.same s = true := by simp [Sig.same]
  rwa [e] at this
theorem JMg (b : Blk) (h : b.qs.length ≤ 1000) : Meets Tryd.prog G JjO [b.avS, b.avS] [] true (.v (.bool true)) [] := by
  have := JHI (G := G) b b (by omega)
  rwa [(Blk.same_iff b b).2 rfl] at this
theorem JMh (v : Vote) (h : v.sig.small) : Meets Tryd.prog G Jvq [v.av, v.av] [] true (.v (.bool true)) [] := by
  refine Jc mix JLB ⟨by simp, by simp, by simp⟩ ?_
  have m1 := JLd (G := G) v.sig h
  simp [Vote.av, dv]
  refine Ja m1 ?_ ?_
  · simp
  simp
  refine Jb (.inr rfl) ?_
  simp
def Cert.small (x : Cert) : Prop := x.votes.length ≤ 1000 ∧ ∀ v ∈ x.votes, v.sig.small
theorem JLF (x : Cert) (h : x.small) : Meets Tryd.prog G Jvg [x.av, x.av] [] true (.v (.bool true)) [] := by
  refine Jc mix JLC ⟨by simp, by simp, by simp⟩ ?_
  obtain ⟨h1, h2⟩ := h
  generalize hvs : x.votes = vs at *
  simp [Cert.av, hvs]
  refine go_up vs.length (fun j (_ : Unit) => True) (fun j _ c => ⟨[(2, .ptr 2 c 0), (3, .ptr 3 c 0), (22, .v (.int .i64 (vs.length : Nat))), (23, .v (.int .i64 (j : Nat)))], [(2, .var c (.node [.v (.int .i64 x.round), .sl 41 (Votes vs)])), (3, .var c (.node [.v (.int .i64 x.round), .sl 41 (Votes vs)]))], c + 1⟩) () _ (Weak.re (by simp)) trivial ?_ ?_
  · intro j _ c hj _
    have hw : IntKind.i64.wrap ((j : Int) + 1) = ((j + 1 : Nat) : Int) := Je (by omega)
    have m1 := JMh (G := G) vs[j] (h2 _ (List.getElem_mem hj))
    simp [hj]
    refine Ja m1 ?_ ?_
    · simp
    simp
    simp [hw]
    exact ⟨(), _, Weak.re (by simp), trivial⟩
  · intro _ c _
    simp
    refine Jb (.inr rfl) ?_
    simp
theorem JSf (m : Mem) : cmpA (.st [.int .i64, .st [.ints .u8 32, .int .i64]]) m.av m.av = some true := by
  have h1 := fun x y : Int => JOb .i64 x y
  unfold Mem.av cmpA
  simp only [cmpL, h1, Option.bind_some, Option.map_some]
  unfold cmpA
  simp only [cmpL, h1, JHA, Option.bind_some, Option.map_some]
  simp
theorem JLo (x : Conf) (h : x.ms.length ≤ 1000) : Meets Tryd.prog G JvG [x.av, x.av] [] true (.v (.bool true)) [] := by
  refine Jc mix JLb ⟨by simp, by simp, by simp⟩ ?_
  generalize hms : x.ms = ms at *
  simp [Conf.av, hms]
  refine go_up ms.length (fun j (_ : Unit) => True) (fun j _ c => ⟨[(2, .ptr 2 c 0), (3, .ptr 3 c 0), (22, .v (.int .i64 (ms.length : Nat))), (23, .v (.int .i64 (j : Nat)))], [(2, .var c (.node [.v (.int .i64 x.epoch), .sl 34 (Mems ms)])), (3, .var c (.node [.v (.int .i64 x.epoch), .sl 34 (Mems ms)]))], c + 1⟩) () _ (Weak.re (by simp)) trivial ?_ ?_
  · intro j _ c hj _
    have hw : IntKind.i64.wrap ((j : Int) + 1) = ((j + 1 : Nat) : Int) := Je (by omega)
    have hc := JSf ms[j]
    simp [hj, hc, hw]
    exact ⟨(), _, Weak.re (by simp), trivial⟩
  · intro _ c _
    simp
    refine Jb (.inr rfl) ?_
    simp
def Lnk.small (l : Lnk) : Prop := l.blk.qs.length ≤ 1000 ∧ l.cert.small ∧ l.conf.ms.length ≤ 1000
theorem JLT (l : Lnk) (h : l.small) : Meets Tryd.prog G JgA [l.av, l.av] [] true (.v (.bool true)) [] := by
  refine Jc mix JLX ⟨by simp, by simp, by simp⟩ ?_
  obtain ⟨h1, h2, h3⟩ := h
  have m1 := JMg (G := G) l.blk h1
  have m2 := JLF (G := G) l.cert h2
  have m3 := JLo (G := G) l.conf h3
  simp [Lnk.av]
  refine Ja m1 ?_ ?_
  · simp
  simp
  refine Ja m2 ?_ ?_
  · simp
  simp
  refine Ja m3 ?_ ?_
  · simp
  simp
  refine Jb (.inr rfl) ?_
  simp
theorem JMv (r : Rd) : r.sig.small := by
  unfold Rd.sig Sig.small
  split
  · simp [Sig.zero]
  · have := r.sN_eq
    simp [Rd.sig0]
    omega
theorem JL1 (r : Rd) : (voteF.rd r).sig.small := by
  rw [JFr]
  split
  · simp [Vote.zero, Sig.zero, Sig.small]
  · exact JMv _
theorem JMt (r : Rd) : r.blk.qs.length ≤ 1000 := by
  have := r.blkN_eq
  unfold Rd.blk
  split
  · simp [Blk.zero]
  · simp [Rd.blk0]; omega
theorem repR_all {α : Type} {F : Fmt α} {p : α → Prop} (h : ∀ r, p (F.rd r)) (r : Rd) : ∀ n, ∀ a ∈ (repR (fun _ => F) r n).1, p a
  | 0 => by simp [repR]
  | n + 1 => by
    simp only [repR, List.mem_append, List.mem_singleton]
    rintro a (ha | rfl)
    · exact repR_all h r n a ha
    · exact h _
theorem JLE (r : Rd) : (certF.rd r).small := by
  rw [JFH]
  split
  · simp [Cert.zero, Cert.small]
  · have := count10 (r.inn' 0 1024)
    refine ⟨?_, repR_all (F := voteF) (p := fun v => v.sig.small) JL1 _ _⟩
    show (repR (fun _ => voteF) ((r.inn' 0 1024).inn' 1 10) r.certN).1.length ≤ 1000
    rw [Jbp]
    unfold Rd.certN
    omega
theorem JLD (r : Rd) : (confF.rd r).ms.length ≤ 1000 := by
  rw [JFE]
  split
  · simp [Conf.zero]
  · have := count10 (r.inn' 0 1073741824)
    show (repR memF ((r.inn' 0 1073741824).inn' 1 10) r.confN).1.length ≤ 1000
    rw [Jbp]
    unfold Rd.confN
    omega
theorem JK8 (r : Rd) : (linkF.rd r).small := by
  rw [JFw]
  split
  · exact ⟨by simp [Lnk.zero, Blk.zero], by simp [Lnk.zero, Cert.zero, Cert.small], by simp [Lnk.zero, Conf.zero]⟩
  · exact ⟨JMt _, JLE _, JLD _⟩
end Go.Proofs.YtjlmpdbagmdbiaaDoor.WL
end
section
namespace Go.Proofs.YtjlmpdbagmdbiaaDoor.WL
open Go
set_option maxHeartbeats 8000000
variable {G : Nat → Option AV}
theorem JOe {c : Conf} {l : Lnk} (h : greatN c [l] = false) : c.ms.length ≤ 20 ∧ l.conf.ms.length ≤ 20 ∧ l.cert.votes.length ≤ 12 ∧ l.blk.bytes.length ≤ 5000 ∧ l.blk.qs.length ≤ 40 ∧ (∀ v ∈ l.cert.votes, v.sig.greatF = false) ∧ l.blk.great 4096 = false := by
  obtain ⟨h1, _, h2⟩ := JMP h
  obtain ⟨k1, k2, k3, k4, k5⟩ := h2 l (by simp)
  refine ⟨h1, k1, k2, k3, k4, k5, ?_⟩
  simp only [greatN, Bool.or_eq_false_iff, List.any_cons, List.any_nil, Bool.or_false] at h
  have h3 := h.2
  simp only [greatL, Bool.or_eq_false_iff] at h3
  exact h3.1.2
def linkB (l : Lnk) : Bytes := if l.cert.ok = true then l.blk.bytes ++ (l.cert.bytes ++ l.conf.bytes) else []
theorem JNs {l : Lnk} (h1 : l.conf.ms.length ≤ 20) (h2 : l.cert.votes.length ≤ 12) (h3 : l.blk.bytes.length ≤ 5000) : (linkB l).length ≤ 50000 := by
  unfold linkB
  by_cases h : l.cert.ok = true
  · rw [if_pos h]
    have := JHM h (by omega)
    have := l.conf.bytes_len
    simp only [List.length_append]
    omega
  · rw [if_neg h]; simp
attribute [local irreducible] sha comp hb checkK idxOf Vote.signs Vote.good rightV Conf.good Blk.good Blk.dg quorum checkC Conf.dg stepK runK checkL
attribute [local irreducible] Rd.sig Rd.sig' Rd.inn Rd.inn' Rd.dg Rd.dg' repR Rd.blk Rd.blk'
theorem JC5 (c : Conf) (l : Lnk) (bs : Bytes) (hm : ∀ m ∈ c.ms, W64 m.height) (hv : ∀ v ∈ l.cert.votes, W64 v.sig.leaf) (he : W64 l.blk.epoch) (hh : W64 l.blk.height)
    (hq : ∀ x ∈ l.blk.qs, W64 x.client ∧ W64 x.num ∧ W64 x.kind ∧ W64 x.ch.kind ∧ W64 x.ch.id ∧ W64 x.ch.new ∧ W64 x.ch.height)
    (hf : ∀ q ∈ l.blk.qs, q.key.length ≤ reachBytes ∧ q.val.length ≤ reachBytes ∧ q.old.length ≤ reachBytes) :
    Meets Tryd.prog Gt JhG [c.av, l.av, .sl 1 (B bs)] [] true (.v (.bool true)) [] := by
  refine Jc mix JBd ⟨by simp, by simp, by simp⟩ ?_
  have m1 := JF8 (G := Gt) c [l] (fun k hk => by rw [List.mem_singleton] at hk; subst hk; exact hf)
  cases hgr : greatN c [l]
  case true =>
    rw [hgr] at m1
    simp
    refine Ja Jj8 ?_ ?_
    · simp
    simp
    refine Ja m1 ?_ ?_
    · simp [Lnks]
    simp
    refine Jb (.inr rfl) ?_
    simp
  rw [hgr] at m1
  by_cases c1 : (65536 : Int) < (bs.length : Nat)
  · simp
    refine Ja Jj8 ?_ ?_
    · simp
    simp
    refine Ja m1 ?_ ?_
    · simp [Lnks]
    simp [c1]
    refine Jb (.inr rfl) ?_
    simp
  obtain ⟨g1, g2, g3, g4, g5, g6, g7⟩ := JOe hgr
  obtain ⟨y, hy⟩ : ∃ y, linkB l = y := ⟨_, rfl⟩
  have hyl : y.length ≤ 50000 := by rw [← hy]; exact JNs g2 g3 g4
  have m2 : Meets Tryd.prog Gt Jbl [.ptr 1000 0 0, l.av] (wrM 0 []) true (.v (.bool l.cert.ok)) (wrM 1 y) := by
    unfold linkB at hy
    cases hk : l.cert.ok
    · rw [hk] at hy
      have := JKT (G := Gt) [] l hk (by omega)
      simpa [← hy] using this
    · rw [hk] at hy
      have := JGQ (G := Gt) [] l hk (by omega) (by omega) (by omega) (by simp; omega)
      rw [JFu] at this
      simpa [← hy] using this
  have m3 := JFm (G := Gt) l (by omega) (by omega) (by omega) (by omega)
  rw [show (if l.cert.ok = true then l.blk.bytes ++ (l.cert.bytes ++ l.conf.bytes) else []) = y from hy] at m3
  have m4 := Jhg (G := Gt) y (by omega)
  obtain ⟨ts, hts, htl, hta⟩ : ∃ ts : List Bytes, ((rep 2 (AV.v (.string (mkS [])))).set 0 (.v (.string (mkS bs)))).set 1 (.v (.string (mkS y))) = Strs ts ∧ ts.length = 2 ∧ ∀ w ∈ ts, w.length ≤ 65536 :=
    ⟨[bs, y], rfl, rfl, fun w hw => by
      rcases List.mem_cons.1 hw with rfl | hw
      · omega
      · rw [List.mem_singleton] at hw; subst hw; omega⟩
  have m5 := JBp c 0 l ⟨by omega, by omega, hm, hv, by omega, by omega, by omega⟩
  have hback : stepK c 0 l = 0 → l.cert.votes.length ≤ 10 → l.cert.ok = true ∧ linkF.rd (Rd.of y) = l ∧ (linkF.rd' (Rd.of y)).done = true := fun h1 h2 => by
    have hg := JOM h1 (Blk.fits_of g7 (by omega) he hh hq) hv h2
    have hk := JNx hg.2.1
    unfold linkB at hy
    rw [hk, if_pos rfl] at hy
    obtain ⟨h3, h4⟩ := JML hg
    rw [show l.bytes = y from hy] at h3 h4
    exact ⟨hk, h3, by rw [h4]; rfl⟩
  have m6 : ∀ w : Bytes, w.length ≤ 65536 → Meets Tryd.prog Gt JcN [.sl 1 (B w)] [] true (.ptr 1000 1 0) _ := fun w hw => JLf (G := Gt) w (fits (by omega) (by omega))
  have m7 := JJh (G := Gt)
  have m8 := JHi (G := Gt)
  have m9 := J8 (G := Gt)
  have m10 := JR (G := Gt)
  have m11 := JNX (G := Gt)
  have m12 := JL9 (G := Gt)
  have m13 : ∀ r : Rd, Meets Tryd.prog Gt JgA [(linkF.rd r).av, (linkF.rd r).av] [] true (.v (.bool true)) [] := fun r => JLT _ (JK8 r)
  have hofs : ∀ w : Bytes, (Rd.of w).s = w ∧ (Rd.of w).pre = [] ∧ (Rd.of w).bad = false := fun w => ⟨rfl, rfl, rfl⟩
  have hyt : List.take y.length y = y := List.take_of_length_le (by omega)
  generalize hok : l.cert.ok = ok at *
  generalize hch : stepK c 0 l = ch at *
  clear hy hok hch
  simp
  refine Ja Jj8 ?_ ?_
  · simp
  simp
  refine Ja m1 ?_ ?_
  · simp [Lnks]
  simp [c1]
  refine Ja m2 ?_ ?_
  · simp [wrM]
  simp [wrM]
  refine Ja m3 ?_ ?_
  · simp
  simp
  refine Ja m4 ?_ ?_
  · simp [wrM]
  simp [wrM, hyt]
  refine go_up 2 (fun j (_ : Unit) => True) (fun j (_ : Unit) q => ⟨[(3, .ptr 3 q 0), (4, .ptr 4 q 0), (7, .ptr 7 q 0), (10, .v (.bool ok)), (51, .arr 1 (Strs ts)), (52, .v (.int .i64 (j : Nat)))],
    [(3, .var q c.av), (4, .var q l.av), (7, .var q (.node [.row 1001 1 q 0 y.length])), (1001, .rows q 1 (B y))], q + 1⟩) () _ (Weak.re (by simp [hts])) trivial ?_ ?_
  · intro j _ q hj _
    have hw : IntKind.i64.wrap ((j : Int) + 1) = ((j + 1 : Nat) : Int) := Je (by omega)
    have hj2 : j < ts.length := by omega
    have hw6 := hta _ (List.getElem_mem hj2)
    obtain ⟨w, hwe⟩ : ∃ w, ts[j] = w := ⟨_, rfl⟩
    rw [hwe] at hw6
    have k1 := m6 w hw6
    have k2 := m7 (Rd.of w)
    have k3 := m8 (Rd.of w)
    have k4 := m13 (Rd.of w)
    generalize linkF.rd (Rd.of w) = rx at *
    generalize linkF.rd' (Rd.of w) = rr at *
    have k5 := m9 rr
    have k6 := m10 rr
    have k7 := m11 rr
    have k8 := m12 rr
    have hwt : List.take w.length w = w := List.take_of_length_le (by omega)
    have hjj : (j : Int) < 2 := by omega
    have hge : ts[j]? = some w := by rw [List.getElem?_eq_getElem hj2, hwe]
    have hmx : w.length ≤ maxLen := JVm (by omega)
    simp [hjj, hj2, htl, hwe, hge, hmx]
    refine Ja k1 ?_ ?_
    · simp
    simp
    refine Ja k2 ?_ ?_
    · simp [rdM, hofs]
    simp [rdM, hofs]
    refine Ja k3 ?_ ?_
    · simp [rfM, hofs]
    simp [rfM, hofs]
    refine Ja k4 ?_ ?_
    · simp
    simp
    refine Ja k5 ?_ ?_
    · simp [rdM]
    simp [rdM]
    refine Ja k6 ?_ ?_
    · simp [rfM]
    simp [rfM]
    refine Ja k7 ?_ ?_
    · simp [rdM]
    simp [rdM]
    refine Ja k8 ?_ ?_
    · simp [rfM]
    simp [rfM, hw]
    exact ⟨(), _, Weak.re (by simp), trivial⟩
  · intro _ q _
    have k1 := m6 y (by omega)
    have k2 := m7 (Rd.of y)
    have k4 := m13 (Rd.of y)
    generalize linkF.rd (Rd.of y) = rx at *
    generalize linkF.rd' (Rd.of y) = rr at *
    have k7 := m11 rr
    simp
    refine Ja m4 ?_ ?_
    · simp [wrM]
    simp [wrM, hyt]
    refine Ja k1 ?_ ?_
    · simp
    simp
    by_cases c5 : (10 : Int) < (l.cert.votes.length : Nat)
    · skip
      refine Ja k2 ?_ ?_
      · simp [rdM, hofs]
      simp [rdM, hofs, Lnk.av, Cert.av, Blk.avS, Conf.av, dv, c5]
      refine Jb (.inr rfl) ?_
      simp
    have c5' : l.cert.votes.length ≤ 10 := by omega
    refine Ja k2 ?_ ?_
    · simp [rdM, hofs]
    simp [rdM, hofs, Lnk.av, Cert.av, Blk.avS, Conf.av, dv, c5]
    refine Ja m5 ?_ ?_
    · simp [Lnk.av, Conf.av, Blk.avS, Cert.av, dv]
    simp
    by_cases h0 : ch = 0
    · obtain ⟨rfl, rfl, hd⟩ := hback h0 c5'
      rw [hd] at k7
      simp [h0]
      refine Ja k7 ?_ ?_
      · simp [rdM]
      simp [rdM]
      refine Ja k4 ?_ ?_
      · simp [Lnk.av, Cert.av, Blk.avS, Conf.av, dv]
      simp
      refine Jb (.inr rfl) ?_
      simp
    · simp [h0]
      refine Jb (.inr rfl) ?_
      simp
end Go.Proofs.YtjlmpdbagmdbiaaDoor.WL
end
section
namespace Go.Proofs.YtjlmpdbagmdbiaaDoor.WL
open Go
theorem gTable : Tryd.prog.globalNamed "wapentake/sha.table" = some 0 := by kernel_rfl
def tableZ : List Int := table.map w32
theorem JSU {H : Type} : (Rows.laid_wapentake_sha_table : DataW H) = Lib.tabData .u32 tableZ := rfl
theorem JMr {C : Ctx} : ∀ ws : List UInt32, Es C 1 (U ws) (ws.map fun z => Value.int .u32 (w32 z))
  | [] => rfl
  | w :: ws => ⟨[_], _, rfl, rfl, ⟨rfl, rfl⟩, JMr ws⟩
theorem JKS {W : World} (h : laidMetH Tryd.prog [("wapentake/sha.table", Rows.laid_wapentake_sha_table)] W) : GR ⟨W, fun k => k < W.heap.size, fun _ => none, fun _ => none, fun g => g = 0⟩ Gt := by
  rw [MakeChecks.laidMetH_plain _ _ _ (by kernel_rfl), JSU] at h
  have hT : Lib.TabIs Tryd.prog W "wapentake/sha.table" .u32 tableZ := by
    refine Lib.tabIs_of_head (t := 189) (e := 165) (n := 64) gTable ?_ ?_ ?_ ?_ ?_ h
    · kernel_rfl
    · kernel_rfl
    · kernel_rfl
    · kernel_rfl
    · kernel_rfl
  intro n x hx
  unfold Gt at hx
  split at hx
  · rename_i hn
    subst hn
    cases hx
    refine ⟨by simp [closed, closeds, U, closeds_all], 0, 0, _, rfl, ?_, JMr table, ?_⟩
    · have h0 := hT.cell gTable 0 (by decide)
      show 0 < W.heap.size
      rcases Nat.eq_zero_or_pos W.heap.size with h1 | h1
      · simp [World.cell?, Array.getElem?_eq_none (Nat.le_of_eq h1)] at h0
      · exact h1
    · intro j u hu
      have hj : j < table.length := by
        rcases Nat.lt_or_ge j table.length with h1 | h1
        · exact h1
        · rw [List.getElem?_eq_none (by simpa using h1)] at hu
          cases hu
      have h1 := hT.cell gTable j (by simpa [tableZ] using hj)
      rw [Nat.zero_add, h1]
      simp [List.getElem?_eq_getElem hj] at hu
      rw [← hu]
      simp [tableZ, List.getD_eq_getElem?_getD, List.getElem?_eq_getElem hj]
  · cases hx
end Go.Proofs.YtjlmpdbagmdbiaaDoor.WL
end
