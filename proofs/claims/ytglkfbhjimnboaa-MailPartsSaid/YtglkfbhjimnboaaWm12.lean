/- Texts put together: S20f, L20a, L20b, L20c, T20. -/
import Derived.Test.YtglkfbhjimnboaaWm11
section
/-
  CHAPTER 20: contracts: what is more than is played.
-/
namespace Go.Proofs.Ytglkfbhjimnboaa.WL
open Go
set_option maxHeartbeats 8000000
variable {G : Nat → Option AV}
attribute [local irreducible] sha
attribute [local irreducible] Rd.sig Rd.sig' Rd.blk Rd.blk' Rd.inn Rd.inn' Rd.dg Rd.dg' Rd.rep Rd.rep' Rd.text Rd.text' Rd.req Rd.req' repR decM decE

def Req.In3 (q : Req) : Prop := q.key.length ≤ reachBytes ∧ q.val.length ≤ reachBytes ∧ q.old.length ≤ reachBytes
/-- A mail that can come in, as far as lengths go. -/
structure Mail.Len (m : Mail) : Prop where
  blk : ∀ q ∈ m.blk.qs, q.In3
  plan : ∀ q ∈ m.plan.blk.qs, q.In3
  links : ∀ l ∈ m.links, ∀ q ∈ l.blk.qs, q.In3
  req : m.req.In3
  vals : ∀ v ∈ m.rep.vals, v.length ≤ reachBytes
  pieces : ∀ p ∈ m.pieces, p.data.length ≤ reachBytes ∧ p.path.length ≤ reachBytes
theorem vlen_any {vs : List Vote} {E : Bool} (hE : (vs.any fun v => v.sig.greatF') = true → E = true) (j : Nat) (h : j < vs.length) (hg : (vs[j]).sig.greatF' = true) : E = true :=
  hE (List.any_eq_true.2 ⟨_, List.getElem_mem h, hg⟩)
theorem greatM_meets (m : Mail) (h : m.Len) : Meets Try.prog G fn_l20_great [m.av] [] true (.v (.bool m.greatM)) [] := by
  refine meets_of_go mix k_l20_great ⟨by simp, by simp, by simp⟩ ?_
  have m1 := bgreat_meets (G := G) m.blk 4096 (by omega) h.blk
  have m2 := bgreat_meets (G := G) m.plan.blk 4096 (by omega) h.plan
  obtain ⟨E, hE⟩ : ∃ E, E = m.greatM := ⟨_, rfl⟩
  rw [← hE]
  simp [Mail.av]
  refine call_intro m1 ?_ ?_
  · simp
  simp
  cases b1 : m.blk.great 4096
  case true =>
    have t : E = true := by rw [hE]; simp [Mail.greatM, Mail.great0, b1]
    simp
    refine post_end (.inr rfl) ?_
    simp [t]
  simp [Plan.av]
  refine call_intro m2 ?_ ?_
  · simp
  simp
  cases b2 : m.plan.blk.great 4096
  case true =>
    have t : E = true := by rw [hE]; simp [Mail.greatM, Mail.great0, b2]
    simp
    refine post_end (.inr rfl) ?_
    simp [t]
  by_cases c1 : 11 < m.cert.votes.length
  · have c1i : (11 : Int) < (m.cert.votes.length : Nat) := by omega
    have t : E = true := by rw [hE]; simp [Mail.greatM, Mail.great0, c1]
    simp [Cert.av, c1, c1i]
    refine post_end (.inr rfl) ?_
    simp [t]
  have c1i : ¬ (11 : Int) < (m.cert.votes.length : Nat) := by omega
  by_cases c2 : 3 < m.links.length
  · have c2i : (3 : Int) < (m.links.length : Nat) := by omega
    have t : E = true := by rw [hE]; simp [Mail.greatM, Mail.great0, c2]
    simp [Cert.av, c1, c1i, c2, c2i]
    refine post_end (.inr rfl) ?_
    simp [t]
  have c2i : ¬ (3 : Int) < (m.links.length : Nat) := by omega
  by_cases c3 : 40 < m.pieces.length
  · have c3i : (40 : Int) < (m.pieces.length : Nat) := by omega
    have t : E = true := by rw [hE]; simp [Mail.greatM, Mail.great0, c3]
    simp [Cert.av, c1, c1i, c2, c2i, c3, c3i]
    refine post_end (.inr rfl) ?_
    simp [t]
  have c3i : ¬ (40 : Int) < (m.pieces.length : Nat) := by omega
  by_cases c4 : 400 < m.rep.vals.length
  · have c4i : (400 : Int) < (m.rep.vals.length : Nat) := by omega
    have t : E = true := by rw [hE]; simp [Mail.greatM, Mail.great0, c4]
    simp [Cert.av, Rep.avS, c1, c1i, c2, c2i, c3, c3i, c4, c4i]
    refine post_end (.inr rfl) ?_
    simp [t]
  have c4i : ¬ (400 : Int) < (m.rep.vals.length : Nat) := by omega
  have d0 : m.great0 = false := by simp [Mail.great0, b1, b2, c1, c2, c3, c4]
  have hE1 : m.links.any Lnk.greatL = true → E = true := by intro t; rw [hE]; simp [Mail.greatM, t]
  have hE2 : (m.all.any fun v => v.sig.greatF') = true → E = true := by intro t; rw [hE]; simp [Mail.greatM, t]
  have hE3 : 16384 < m.total → E = true := by intro t; rw [hE]; simp [Mail.greatM, t]
  have hE4 : m.links.any Lnk.greatL = false → (m.all.any fun v => v.sig.greatF') = false → E = decide (16384 < m.total) := by intro t u; rw [hE]; simp only [Mail.greatM, t, u, d0, Bool.false_or]
  clear hE d0
  have hall : m.all = [m.vote, { Vote.zero with sig := m.plan.sig }] ++ m.cert.votes ++ m.links.flatMap (fun l => l.cert.votes) := rfl
  have hB : [m.vote.av, Vote.av { Vote.zero with sig := m.plan.sig }] ++ Votes m.cert.votes = Votes ([m.vote, { Vote.zero with sig := m.plan.sig }] ++ m.cert.votes) := rfl
  have hBl : ([m.vote, { Vote.zero with sig := m.plan.sig }] ++ m.cert.votes).length = 2 + m.cert.votes.length := by simp; omega
  have hz : Vote.av { Vote.zero with sig := m.plan.sig } = .node [.v (.int .i64 0), .v (.int .i64 0), .v (.int .i64 0), .v (.int .i64 0), .arr 1 (B (zeros 32)), .v (.int .i64 0), m.plan.sig.avS] := rfl
  rw [hz] at hB
  clear hz
  generalize [m.vote, { Vote.zero with sig := m.plan.sig }] ++ m.cert.votes = V0 at *
  have f0 : fitsB (2 + m.cert.votes.length) 152 := fits (by omega) (by omega)
  have hlk := h.links
  have hvl := h.vals
  have hpc := h.pieces
  have htot : m.total = m.req.key.length + m.req.val.length + m.req.old.length + lenSum m.rep.vals + pcSum m.pieces := rfl
  generalize hls : m.links = ls at *
  generalize hps : m.pieces = ps at *
  generalize hvs : m.rep.vals = vals at *
  have hmav : m.av = .node [.v (.int .i64 m.kind), m.plan.av, m.vote.av, m.req.av, m.rep.avS, .v (.int .i64 m.height), m.blk.avS, m.cert.av, .sl 103 (Lnks ls), .sl 36 (Pcs ps)] := by unfold Mail.av; rw [hls, hps]
  have hrav : m.rep.avS = .node [.v (.int .i64 m.rep.client), .v (.int .i64 m.rep.num), .v (.int .i64 m.rep.code), .sl 1 (Strs vals)] := by unfold Rep.avS; rw [hvs]
  simp [Cert.av, hrav, c1, c1i, c2, c2i, c3, c3i, c4, c4i, f0, hB]
  obtain ⟨V, hV⟩ : ∃ V : Nat → List Vote, ∀ j, V j = V0 ++ (ls.take j).flatMap (fun l => l.cert.votes) := ⟨_, fun _ => rfl⟩
  have hV00 : V 0 = V0 := by rw [hV]; simp
  have hVs : ∀ j (hj : j < ls.length), V (j + 1) = V j ++ ls[j].cert.votes := by
    intro j hj
    rw [hV, hV, List.take_succ_eq_append_getElem hj, List.flatMap_append, List.append_assoc]
    simp only [List.flatMap_cons, List.flatMap_nil, List.append_nil]
  have hVN : V ls.length = m.all := by rw [hV, List.take_length, hall]
  clear hV
  refine go_up ls.length (fun j (_ : Unit) => (∀ i (h : i < ls.length), i < j → ls[i].greatL = false) ∧ (V j).length ≤ 13 + 11 * j) (fun j _ c => ⟨[(1, .ptr 1 c 0), (3, .row 54 41 c 0 (V j).length), (60, .sl 103 (Lnks ls)), (61, .v (.int .i64 (ls.length : Nat))), (62, .v (.int .i64 (j : Nat)))],
    [(1, .var c m.av), (54, .rows c 41 (Votes (V j)))], c + 1⟩) () _ (Weak.re (by simp [hV00, hBl, hmav, hrav, Cert.av, Plan.av])) ⟨by intro i _ h; omega, by rw [hV00]; omega⟩ ?_ ?_
  · rintro j _ c hj ⟨hx, hvj⟩
    have hw : IntKind.i64.wrap ((j : Int) + 1) = ((j + 1 : Nat) : Int) := w64_succ (by omega)
    have hVj := hVs j hj
    have hq := hlk ls[j] (List.getElem_mem hj)
    have hany : ls[j].greatL = true → E = true := fun t => hE1 (List.any_eq_true.2 ⟨_, List.getElem_mem hj, t⟩)
    have hgl : ls[j].greatL = (decide (11 < ls[j].cert.votes.length) || decide (20 < ls[j].conf.ms.length) || ls[j].blk.great 4096) := rfl
    generalize hl : ls[j] = l at *
    have m3 := bgreat_meets (G := G) l.blk 4096 (by omega) hq
    by_cases g1 : 11 < l.cert.votes.length
    · have g1i : (11 : Int) < (l.cert.votes.length : Nat) := by omega
      have t : E = true := hany (by rw [hgl]; simp [g1])
      simp [hj, hl, Lnk.av, Cert.av, g1, g1i]
      refine post_end (.inr rfl) ?_
      simp [t]
    have g1i : ¬ (11 : Int) < (l.cert.votes.length : Nat) := by omega
    by_cases g2 : 20 < l.conf.ms.length
    · have g2i : (20 : Int) < (l.conf.ms.length : Nat) := by omega
      have t : E = true := hany (by rw [hgl]; simp [g2])
      simp [hj, hl, Lnk.av, Cert.av, Conf.av, g1, g1i, g2, g2i]
      refine post_end (.inr rfl) ?_
      simp [t]
    have g2i : ¬ (20 : Int) < (l.conf.ms.length : Nat) := by omega
    have f1 : fitsB ((V j).length + l.cert.votes.length) 152 := fits (by omega) (by omega)
    simp [hj, hl, Lnk.av, Cert.av, Conf.av, g1, g1i, g2, g2i]
    refine call_intro m3 ?_ ?_
    · simp
    simp
    cases g3 : l.blk.great 4096
    case true =>
      have t : E = true := hany (by rw [hgl]; simp [g3])
      simp
      refine post_end (.inr rfl) ?_
      simp [t]
    simp [Cert.av, f1, hw]
    refine ⟨(), _, Weak.re (by simp [hVj]), ?_, ?_⟩
    · intro i hi hij
      rcases (show i < j ∨ i = j by omega) with h | rfl
      · exact hx i hi h
      · rw [hl, hgl]; simp [g1, g2, g3]
    · rw [hVj, List.length_append]; omega
  rintro _ c ⟨hx, hvN⟩
  have hno1 : ls.any Lnk.greatL = false := by
    rw [List.any_eq_false]
    intro l hl
    obtain ⟨i, hi, rfl⟩ := List.getElem_of_mem hl
    simp [hx i hi hi]
  rw [hVN] at hvN ⊢
  clear hVN hVs hV00 hx
  generalize m.all = W at *
  simp
  refine go_up W.length (fun j (_ : Unit) => ∀ i (h : i < W.length), i < j → (W[i]).sig.greatF' = false) (fun j _ c => ⟨[(1, .ptr 1 c 0), (89, .sl 41 (Votes W)), (90, .v (.int .i64 (W.length : Nat))), (91, .v (.int .i64 (j : Nat)))],
    [(1, .var c m.av)], c + 1⟩) () _ (Weak.re (by simp)) (by intro i _ h; omega) ?_ ?_
  · intro j _ c hj hx
    have hw : IntKind.i64.wrap ((j : Int) + 1) = ((j + 1 : Nat) : Int) := w64_succ (by omega)
    have hany : (W[j]).sig.greatF' = true → E = true := fun t => vlen_any hE2 j hj t
    have hgl : (W[j]).sig.greatF' = (decide (200 < (W[j]).sig.op.length) || decide (200 < (W[j]).sig.sh.length) || decide (200 < (W[j]).sig.path.length)) := rfl
    generalize hv : W[j] = v at *
    by_cases g1 : 200 < v.sig.op.length
    · have g1i : (200 : Int) < (v.sig.op.length : Nat) := by omega
      have t : E = true := hany (by rw [hgl]; simp [g1])
      simp [hj, hv, Vote.av, Sig.avS, g1, g1i]
      refine post_end (.inr rfl) ?_
      simp [t]
    have g1i : ¬ (200 : Int) < (v.sig.op.length : Nat) := by omega
    by_cases g2 : 200 < v.sig.sh.length
    · have g2i : (200 : Int) < (v.sig.sh.length : Nat) := by omega
      have t : E = true := hany (by rw [hgl]; simp [g2])
      simp [hj, hv, Vote.av, Sig.avS, g1, g1i, g2, g2i]
      refine post_end (.inr rfl) ?_
      simp [t]
    have g2i : ¬ (200 : Int) < (v.sig.sh.length : Nat) := by omega
    by_cases g3 : 200 < v.sig.path.length
    · have g3i : (200 : Int) < (v.sig.path.length : Nat) := by omega
      have t : E = true := hany (by rw [hgl]; simp [g3])
      simp [hj, hv, Vote.av, Sig.avS, g1, g1i, g2, g2i, g3, g3i]
      refine post_end (.inr rfl) ?_
      simp [t]
    have g3i : ¬ (200 : Int) < (v.sig.path.length : Nat) := by omega
    simp [hj, hv, Vote.av, Sig.avS, g1, g1i, g2, g2i, g3, g3i, hw]
    refine ⟨(), _, Weak.re (by simp), ?_⟩
    intro i hi hij
    rcases (show i < j ∨ i = j by omega) with h | rfl
    · exact hx i hi h
    · rw [hv, hgl]; simp [g1, g2, g3]
  intro _ c hx
  have hno2 : (W.any fun v => v.sig.greatF') = false := by
    rw [List.any_eq_false]
    intro v hv
    obtain ⟨i, hi, rfl⟩ := List.getElem_of_mem hv
    simp [hx i hi hi]
  have hEf := hE4 hno1 hno2
  clear hE1 hE2 hE4 hno1 hno2 hx
  obtain ⟨r1, r2, r3⟩ := h.req
  unfold reachBytes at r1 r2 r3
  obtain ⟨n0, hn0⟩ : ∃ n, n = m.req.key.length + m.req.val.length + m.req.old.length := ⟨_, rfl⟩
  rw [← hn0] at htot
  have w1 : IntKind.i64.wrap ((m.req.key.length : Int) + (m.req.val.length : Nat)) = ((m.req.key.length + m.req.val.length : Nat) : Int) := w64_add (by omega)
  have w2 : IntKind.i64.wrap (((m.req.key.length + m.req.val.length : Nat) : Int) + (m.req.old.length : Nat)) = (n0 : Int) := by rw [hn0]; exact w64_add (by omega)
  simp only [Int.natCast_add] at w2
  rw [w64_id (by omega)] at w2
  have w3 : IntKind.i64.wrap ((m.req.key.length : Int) + (m.req.val.length : Nat)) = (m.req.key.length : Int) + (m.req.val.length : Nat) := w64_id (by omega)
  have w4 : IntKind.i64.wrap ((m.req.key.length : Int) + (m.req.val.length : Nat) + (m.req.old.length : Nat)) = (n0 : Int) := by rw [w64_id (by omega)]; omega
  simp [hmav, hrav, Req.av, Chg.av, w3, w4]
  refine go_up vals.length (fun j (n : Nat) => n = n0 + lenSum (vals.take j) ∧ (j = 0 ∨ n ≤ 16384)) (fun j n c => ⟨[(1, .ptr 1 c 0), (8, .v (.int .i64 (n : Nat))), (136, .sl 1 (Strs vals)), (137, .v (.int .i64 (vals.length : Nat))), (138, .v (.int .i64 (j : Nat)))],
    [(1, .var c m.av)], c + 1⟩) n0 _ (Weak.re (by simp [hmav, hrav, Req.av, Chg.av])) (by simp [lenSum]) ?_ ?_
  · rintro j n c hj ⟨hn, hn2⟩
    have hw : IntKind.i64.wrap ((j : Int) + 1) = ((j + 1 : Nat) : Int) := w64_succ (by omega)
    have hs := lenSum_snoc vals j hj
    have hle := lenSum_le vals (j + 1)
    have hvj := hvl vals[j] (List.getElem_mem hj)
    unfold reachBytes at hvj
    have hn3 : n ≤ 500000000000000 := by
      rcases hn2 with h0 | h0
      · have e : lenSum (vals.take j) = 0 := by rw [h0]; simp [lenSum]
        omega
      · omega
    obtain ⟨s, hs2⟩ : ∃ s, s = n + vals[j].length := ⟨_, rfl⟩
    have w5 : IntKind.i64.wrap ((n : Int) + (vals[j].length : Nat)) = (s : Int) := by rw [w64_id (by omega)]; omega
    by_cases g : (16384 : Int) < (s : Int)
    · have g' : 16384 < s := by omega
      have t : E = true := hE3 (by rw [htot]; omega)
      simp [hj, w5, g, g']
      refine post_end (.inr rfl) ?_
      simp [t]
    · have g' : ¬ 16384 < s := by omega
      simp [hj, w5, g, g', hw]
      exact ⟨s, _, Weak.re (by simp), by omega, by omega⟩
  rintro n c ⟨hn, hn2⟩
  rw [List.take_length] at hn
  simp [hmav]
  have hps40 : ps.length ≤ 40 := by omega
  refine go_up ps.length (fun j (k : Nat) => k = n + pcSum (ps.take j) ∧ (j = 0 ∨ k ≤ 16384)) (fun j k c => ⟨[(8, .v (.int .i64 (k : Nat))), (150, .sl 36 (Pcs ps)), (151, .v (.int .i64 (ps.length : Nat))), (152, .v (.int .i64 (j : Nat)))], [], c + 1⟩) n _ (Weak.re (by simp)) (by simp [pcSum]) ?_ ?_
  · rintro j k c hj ⟨hk, hk2⟩
    have hw : IntKind.i64.wrap ((j : Int) + 1) = ((j + 1 : Nat) : Int) := w64_succ (by omega)
    have hs := pcSum_snoc ps j hj
    have hle := pcSum_le ps (j + 1)
    obtain ⟨p1, p2⟩ := hpc ps[j] (List.getElem_mem hj)
    unfold reachBytes at p1 p2
    generalize hp : ps[j] = p at *
    obtain ⟨s, hs2⟩ : ∃ s, s = k + (p.data.length + 32 * p.path.length) := ⟨_, rfl⟩
    have hn3 : n ≤ 500000000000000 := by
      rcases hn2 with h0 | h0
      · rw [hn]
        have : vals = [] := List.eq_nil_of_length_eq_zero h0
        rw [this]
        simp [lenSum]
        omega
      · omega
    have hk3 : k ≤ 500000000000000 := by
      rcases hk2 with h0 | h0
      · have e : pcSum (ps.take j) = 0 := by rw [h0]; simp [pcSum]
        omega
      · omega
    have w5 : IntKind.i64.wrap (32 * (p.path.length : Int)) = 32 * (p.path.length : Int) := w64_id (by omega)
    have w6 : IntKind.i64.wrap ((p.data.length : Int) + 32 * (p.path.length : Int)) = (p.data.length : Int) + 32 * (p.path.length : Int) := w64_id (by omega)
    have w7 : IntKind.i64.wrap ((k : Int) + ((p.data.length : Int) + 32 * (p.path.length : Int))) = (s : Int) := by rw [w64_id (by omega)]; omega
    by_cases g : (16384 : Int) < (s : Int)
    · have g' : 16384 < s := by omega
      have t : E = true := hE3 (by rw [htot]; omega)
      simp [hj, hp, Piece.av, w5, w6, w7, g, g']
      refine post_end (.inr rfl) ?_
      simp [t]
    · have g' : ¬ 16384 < s := by omega
      simp [hj, hp, Piece.av, w5, w6, w7, g, g', hw]
      exact ⟨s, _, Weak.re (by simp), by omega, by omega⟩
  rintro k c ⟨hk, hk2⟩
  rw [List.take_length] at hk
  have hkt : k = m.total := by rw [htot, hk, hn]
  by_cases g : 16384 < k
  · have gi : (16384 : Int) < (k : Int) := by omega
    have t : E = true := hE3 (by omega)
    simp [g, gi]
    refine post_end (.inr rfl) ?_
    simp [t]
  · have gi : ¬ (16384 : Int) < (k : Int) := by omega
    have t : E = false := by rw [hEf, ← hkt]; simp [g]
    simp [g, gi]
    refine post_end (.inr rfl) ?_
    simp [t]
end Go.Proofs.Ytglkfbhjimnboaa.WL

end
section
/-
  CHAPTER 20: what is not great, and what was decoded, can be encoded.
-/
namespace Go.Proofs.Ytglkfbhjimnboaa.WL
open Go
set_option maxHeartbeats 4000000
attribute [local irreducible] sha
attribute [local irreducible] Rd.sig Rd.sig' Rd.blk Rd.blk' Rd.inn Rd.inn' Rd.dg Rd.dg' Rd.rep Rd.rep' Rd.text Rd.text' Rd.req Rd.req' repR decE

theorem great4096 {b : Blk} (h : b.great 4096 = false) : b.qs.length ≤ 40 ∧ b.bytes.length ≤ 5000 := by
  simp only [Blk.great, Bool.or_eq_false_iff, decide_eq_false_iff_not] at h
  rw [Blk.bytes_len]
  omega
theorem linkW_le (l : Lnk) : (linkW l).length ≤ (linkF.wr l).length := by
  unfold linkW
  split <;> simp
theorem linksW_le : ∀ (ls : List Lnk), (linksW ls).length ≤ (ls.flatMap linkF.wr).length
  | [] => by simp [linksW]
  | l :: ls => by
    show (linkW l ++ linksW ls).length ≤ (linkF.wr l ++ ls.flatMap linkF.wr).length
    rw [List.length_append, List.length_append]
    have := linkW_le l
    have := linksW_le ls
    omega
theorem linkW_small {l : Lnk} (h : l.greatL = false) : (linkW l).length ≤ 40000 := by
  unfold linkW
  split
  · rename_i hk
    simp only [Lnk.greatL, Bool.or_eq_false_iff, decide_eq_false_iff_not] at h
    have h1 := l.cert.bytes_len hk
    have h2 := (great4096 h.2).2
    have h3 := memsB_len l.conf.ms
    rw [linkF_wr, List.length_append, List.length_append]
    simp only [Conf.bytes, List.length_append, nums_length, List.length_cons, List.length_nil]
    omega
  · simp
theorem linksW_small : ∀ (ls : List Lnk), ls.any Lnk.greatL = false → (linksW ls).length ≤ 40000 * ls.length
  | [], _ => by simp [linksW]
  | l :: ls, h => by
    simp only [List.any_cons, Bool.or_eq_false_iff] at h
    show (linkW l ++ linksW ls).length ≤ _
    rw [List.length_append, List.length_cons]
    have := linkW_small h.1
    have := linksW_small ls h.2
    omega
theorem pcsB_len : ∀ (ps : List Piece), (pcsB ps).length = 60 * ps.length + pcSum ps
  | [] => rfl
  | p :: ps => by
    show (p.bytes ++ pcsB ps).length = 60 * (ps.length + 1) + (p.data.length + 32 * p.path.length + pcSum ps)
    rw [List.length_append, pcsB_len ps, Piece.bytes_len]
    omega
theorem Mail.lim_of {m : Mail} (h : m.greatM = false) : m.Lim := by
  simp only [Mail.greatM, Mail.great0, Bool.or_eq_false_iff, decide_eq_false_iff_not] at h
  obtain ⟨⟨⟨⟨⟨⟨g1, g2⟩, g3⟩, g4⟩, g5⟩, g6⟩, g7, g8, g9⟩ := h
  have b1 := great4096 g1
  have b2 := great4096 g2
  have hl := linksW_small m.links g7
  have hp := pcsB_len m.pieces
  have hr := Req.bytes_len m.req
  have ht := txts_lenSum m.rep.vals
  unfold Mail.total at g9
  have hrep : m.rep.bytes.length = 32 + (txts m.rep.vals).length := by simp only [Rep.bytes, List.length_append, nums_length, List.length_cons, List.length_nil]
  refine ⟨⟨by omega, ?_, by omega, by omega, by omega⟩, by omega, by omega, by omega, by omega, by omega, by omega, by omega, by omega⟩
  intro l hm
  have hg : l.greatL = false := by
    have := List.any_eq_false.1 g7 l hm
    simpa using this
  simp only [Lnk.greatL, Bool.or_eq_false_iff, decide_eq_false_iff_not] at hg
  have := great4096 hg.2
  exact ⟨by omega, by omega, by omega, by omega⟩
theorem zero_lim : Mail.zero.Lim := by
  refine Mail.lim_of ?_
  decide +kernel
theorem flat_mem {α : Type} {f : α → Bytes} {l : List α} {a : α} (h : a ∈ l) : (f a).length ≤ (l.flatMap f).length := by
  obtain ⟨u, v, rfl⟩ := List.append_of_mem h
  simp only [List.flatMap_append, List.flatMap_cons, List.length_append]
  omega
theorem body_lim (k : Int) (r : Rd) (hl : (bodyRd k r).body.length ≤ 1000000) : (bodyRd k r).Lim := by
  have z := zero_lim
  have zl := z.l
  have sm := body_small k r
  revert hl sm
  unfold bodyRd
  split
  · intro hl sm
    have e : ({ Mail.zero with kind := k, plan := planF.rd r } : Mail).body = planF.wr (planF.rd r) := by rename_i hk; simp [Mail.body, hk]
    rw [e, planF_wr, List.length_append] at hl
    have e2 : (planF.rd r).head.length = 40 + (planF.rd r).blk.bytes.length := by simp [Plan.head, nums_length]
    exact ⟨⟨zl.links, zl.link, zl.linksW, zl.pieces, zl.pcs⟩, by show (planF.rd r).blk.bytes.length ≤ _; omega, sm.planq, z.req, z.rep, z.repn, z.blk, z.blkq, z.votes⟩
  split
  · intro _ _
    exact ⟨⟨zl.links, zl.link, zl.linksW, zl.pieces, zl.pcs⟩, z.plan, z.planq, z.req, z.rep, z.repn, z.blk, z.blkq, z.votes⟩
  split
  · intro hl sm
    have e : ({ Mail.zero with kind := k, req := r.req } : Mail).body = r.req.bytes := by rename_i hk; simp [Mail.body, hk]
    rw [e] at hl
    exact ⟨⟨zl.links, zl.link, zl.linksW, zl.pieces, zl.pcs⟩, z.plan, z.planq, by show r.req.bytes.length ≤ _; omega, z.rep, z.repn, z.blk, z.blkq, z.votes⟩
  split
  · intro hl sm
    have e : ({ Mail.zero with kind := k, height := r.inn 0 1024, rep := (r.inn' 0 1024).rep } : Mail).body = be8 (r.inn 0 1024) ++ (r.inn' 0 1024).rep.bytes := by rename_i hk; simp [Mail.body, hk]
    rw [e, List.length_append] at hl
    have := sm.vals
    exact ⟨⟨zl.links, zl.link, zl.linksW, zl.pieces, zl.pcs⟩, z.plan, z.planq, z.req, by show (r.inn' 0 1024).rep.bytes.length ≤ _; omega, by omega, z.blk, z.blkq, z.votes⟩
  split
  · intro hl sm
    have e : ({ Mail.zero with kind := k, blk := r.blk, cert := certF.rd r.blk' } : Mail).body = r.blk.bytes ++ (certF.rd r.blk').bytes := by rename_i hk; simp [Mail.body, hk]
    rw [e, List.length_append] at hl
    exact ⟨⟨zl.links, zl.link, zl.linksW, zl.pieces, zl.pcs⟩, z.plan, z.planq, z.req, z.rep, z.repn, by show r.blk.bytes.length ≤ _; omega, sm.blkq, sm.cert.1⟩
  split
  · intro _ _
    exact ⟨⟨zl.links, zl.link, zl.linksW, zl.pieces, zl.pcs⟩, z.plan, z.planq, z.req, z.rep, z.repn, z.blk, z.blkq, z.votes⟩
  split
  · intro hl sm
    have e : ({ Mail.zero with kind := k, links := linksF.rd r } : Mail).body = linksF.wr (linksF.rd r) := by rename_i hk; simp [Mail.body, hk]
    rw [e, linksF_wr, List.length_append] at hl
    have h1 := linksW_le (linksF.rd r)
    refine ⟨⟨sm.linksn, ?_, by show (linksW (linksF.rd r)).length ≤ _; omega, zl.pieces, zl.pcs⟩, z.plan, z.planq, z.req, z.rep, z.repn, z.blk, z.blkq, z.votes⟩
    intro l hm
    have hs := sm.links l hm
    have hb : (linkF.wr l).length ≤ ((linksF.rd r).flatMap linkF.wr).length := flat_mem (f := linkF.wr) hm
    rw [linkF_wr, List.length_append] at hb
    exact ⟨hs.1, hs.2.1.1, hs.2.2, by omega⟩
  split
  · intro hl sm
    have e : ({ Mail.zero with kind := k, blk := r.blk, cert := certF.rd r.blk', pieces := piecesF.rd (certF.rd' r.blk') } : Mail).body = r.blk.bytes ++ (certF.rd r.blk').bytes ++ piecesF.wr (piecesF.rd (certF.rd' r.blk')) := by rename_i hk; simp [Mail.body, hk]
    rw [e, List.length_append, List.length_append, piecesF_wr, List.length_append] at hl
    have e2 : ((piecesF.rd (certF.rd' r.blk')).flatMap Piece.bytes).length = (pcsB (piecesF.rd (certF.rd' r.blk'))).length := rfl
    rw [e2] at hl
    exact ⟨⟨zl.links, zl.link, zl.linksW, sm.piecesn, by show (pcsB (piecesF.rd (certF.rd' r.blk'))).length ≤ _; omega⟩, z.plan, z.planq, z.req, z.rep, z.repn, by show r.blk.bytes.length ≤ _; omega, sm.blkq, sm.cert.1⟩
  · intro _ _
    exact ⟨⟨zl.links, zl.link, zl.linksW, zl.pieces, zl.pcs⟩, z.plan, z.planq, z.req, z.rep, z.repn, z.blk, z.blkq, z.votes⟩
theorem dec_lim (b : Bytes) (h : decE b = 0) (hb : b.length ≤ 900000) : (decM b).Lim := by
  have h1 := (mail_one b h).1
  have hl : (decM b).body.length ≤ 1000000 := by
    have := congrArg List.length h1
    simp only [Mail.bytes, List.length_append] at this
    omega
  revert hl
  unfold decM
  split
  · intro _; exact zero_lim
  · split
    · intro hl; exact body_lim _ _ hl
    · intro _; exact zero_lim
end Go.Proofs.Ytglkfbhjimnboaa.WL

end
section
/-
  CHAPTER 20: walks of laws.
-/
namespace Go.Proofs.Ytglkfbhjimnboaa.WL
open Go
set_option maxHeartbeats 8000000
variable {G : Nat → Option AV}
attribute [local irreducible] sha
attribute [local irreducible] Rd.sig Rd.sig' Rd.blk Rd.blk' Rd.inn Rd.inn' Rd.dg Rd.dg' Rd.rep Rd.rep' Rd.text Rd.text' Rd.req Rd.req' repR decM decE

def m7 : Mail := { Mail.zero with kind := 7 }
theorem m7_enc : encE m7 = 0 ∧ encB m7 = be8 7 ∧ decE (be8 7) = 0 ∧ (decM (be8 7)).kind = 7 := by decide +kernel
theorem m7_lim : m7.Lim := by
  have z := zero_lim
  have zl := z.l
  exact ⟨⟨zl.links, zl.link, zl.linksW, zl.pieces, zl.pcs⟩, z.plan, z.planq, z.req, z.rep, z.repn, z.blk, z.blkq, z.votes⟩
theorem alive20_meets : Meets Try.prog G fn_l20_alive [] [] true (.v (.bool true)) [] := by
  refine meets_of_go mix k_l20_alive ⟨by simp, by simp, by simp⟩ ?_
  obtain ⟨h1, h2, h3, h4⟩ := m7_enc
  have m1 := encode_meets (G := G) m7 m7_lim
  rw [h1, h2] at m1
  have m2 := decode_meets (G := G) (be8 7) (by simp)
  rw [h3] at m2
  have hl : (be8 7).length = 8 := rfl
  clear h1 h2 h3
  generalize decM (be8 7) = x at *
  generalize be8 7 = y at *
  simp
  refine call_intro m1 ?_ ?_
  · simp [m7, Mail.av, Mail.zero, Plan.av, Plan.zero, Vote.av, Vote.zero, Req.av, Req.zero, Chg.av, Chg.zero, Rep.avS, Rep.zero, Blk.avS, Blk.zero, Cert.av, Cert.zero, Sig.avS, Sig.zero, dv]
  simp [m7, Mail.av, Mail.zero, Plan.av, Plan.zero, Vote.av, Vote.zero, Req.av, Req.zero, Chg.av, Chg.zero, Rep.avS, Rep.zero, Blk.avS, Blk.zero, Cert.av, Cert.zero, Sig.avS, Sig.zero, dv]
  refine call_intro m2 ?_ ?_
  · simp
  simp
  simp [Mail.av, hl, h4]
  refine post_end (.inr rfl) ?_
  simp

theorem mailReads_walk (b : Bytes) : Meets Try.prog G fn_l20_MailReads [.sl 1 (B b)] [] true (.v (.bool true)) [] := by
  refine meets_of_go mix k_l20_MailReads ⟨by simp, by simp, by simp⟩ ?_
  by_cases c1 : 65536 < b.length
  · have c1i : (65536 : Int) < (b.length : Nat) := by omega
    simp
    refine call_intro alive20_meets ?_ ?_
    · simp
    simp
    simp [c1, c1i]
    refine post_end (.inr rfl) ?_
    simp
  have c1i : ¬ (65536 : Int) < (b.length : Nat) := by omega
  have m1 := decode_meets (G := G) b (by omega)
  have m2 := rdecode_meets (G := G) b (by omega)
  have m3 := msame_refl (G := G) (decM b) (dec_small b)
  have htb : List.take b.length b = b := List.take_of_length_le (by omega)
  generalize decM b = x at *
  generalize decE b = e at *
  simp
  refine call_intro alive20_meets ?_ ?_
  · simp
  simp
  simp [c1, c1i]
  refine call_intro m1 ?_ ?_
  · simp
  simp
  refine call_intro m2 ?_ ?_
  · simp
  simp
  refine call_intro m3 ?_ ?_
  · simp
  simp
  refine post_end (.inr rfl) ?_
  simp

theorem rep_fill (c : UInt8) (N j : Nat) (hj : j < N) : (List.replicate j c ++ zeros (N - j)).set j c = List.replicate (j + 1) c ++ zeros (N - (j + 1)) := by
  rw [List.set_append_right _ _ (by simp), List.length_replicate, Nat.sub_self, List.replicate_succ', List.append_assoc]
  congr 1
  rw [show N - j = (N - (j + 1)) + 1 by omega]
  rfl
theorem dec_alike (c : UInt8) (N : Nat) (h : 8 ≤ N) : decM (List.replicate N c) = Mail.zero ∧ decE (List.replicate N c) = (if 262144 < N then 3 else 4) := by
  have hn := same_bytes c N h
  refine ⟨decM_bad _ hn, ?_⟩
  unfold decE at hn ⊢
  rw [List.length_replicate] at hn ⊢
  by_cases hl : 262144 < N
  · rw [if_pos hl, if_pos hl]
  · rw [if_neg hl] at hn ⊢
    rw [if_neg hl]
    split
    · rename_i h2; rw [if_pos h2] at hn; exact absurd rfl hn
    · rfl
theorem mailLong_walk (n : Int) (c : UInt8) : Meets Try.prog G fn_l20_MailLong [.v (.int .i64 n), bv c] [] true (.v (.bool true)) [] := by
  refine meets_of_go mix k_l20_MailLong ⟨by simp, by simp, by simp⟩ ?_
  by_cases c1 : n < 0
  · simp
    refine call_intro alive20_meets ?_ ?_
    · simp
    simp
    simp [c1]
    refine post_end (.inr rfl) ?_
    simp
  by_cases c2 : 100 < n
  · simp
    refine call_intro alive20_meets ?_ ?_
    · simp
    simp
    simp [c1, c2]
    refine post_end (.inr rfl) ?_
    simp
  obtain ⟨N, hN⟩ : ∃ N : Nat, (N : Int) = 262094 + n := ⟨(262094 + n).toNat, by omega⟩
  have hw0 : IntKind.i64.wrap (262094 + n) = (N : Int) := by rw [w64_id (by omega)]; omega
  have hNb : N ≤ 262194 ∧ 262094 ≤ N := by omega
  have hmk : N * 1 ≤ 281474976710656 ∧ N ≤ maxLen := ⟨by omega, le_max (by omega)⟩
  have hmk2 : N ≤ 281474976710656 := by omega
  obtain ⟨d1, d2⟩ := dec_alike c N (by omega)
  have m1 := decode_meets (G := G) (List.replicate N c) (by rw [List.length_replicate]; omega)
  rw [d1, d2] at m1
  have m2 := msame_refl (G := G) Mail.zero zero_small
  have hdec : (262144 < N) = (50 < n) := by apply propext; omega
  simp
  refine call_intro alive20_meets ?_ ?_
  · simp
  simp
  simp [c1, c2, hw0, hmk, hmk2]
  refine go_up N (fun j (x : Bytes) => x = List.replicate j c ++ zeros (N - j)) (fun j x c' => ⟨[(0, .v (.int .i64 n)), (1, bv c), (5, .row 20 1 c' 0 N), (22, .v (.int .i64 (N : Nat))), (23, .v (.int .i64 (j : Nat)))], [(20, .rows c' 1 (B x))], c' + 1⟩) (zeros N) _ (Weak.re (by simp)) (by simp) ?_ ?_
  · intro j x c' hj hx
    have hw : IntKind.i64.wrap ((j : Int) + 1) = ((j + 1 : Nat) : Int) := w64_succ (by omega)
    have hxl : x.length = N := by rw [hx]; simp; omega
    have hs := rep_fill c N j hj
    rw [← hx] at hs
    simp [hj, hxl, B_set, hw]
    exact ⟨_, _, Weak.re (by simp), hs⟩
  · intro x c' hx
    have hx2 : x = List.replicate N c := by rw [hx]; simp [zeros]
    subst hx2
    generalize hz : List.replicate N c = z at *
    have hzl : z.length = N := by rw [← hz]; simp
    have htz : List.take N z = z := List.take_of_length_le (by omega)
    have hle : N ≤ z.length := by omega
    simp
    refine call_intro m1 ?_ ?_
    · simp [htz, hle]
    simp [htz, hle]
    by_cases c3 : 50 < n
    · simp [c3, hdec]
      refine call_intro m2 ?_ ?_
      · simp [Mail.av, Mail.zero, Plan.av, Plan.zero, Vote.av, Vote.zero, Req.av, Req.zero, Chg.av, Chg.zero, Rep.avS, Rep.zero, Blk.avS, Blk.zero, Cert.av, Cert.zero, Sig.avS, Sig.zero, dv]
      simp [Mail.av, Mail.zero, Plan.av, Plan.zero, Vote.av, Vote.zero, Req.av, Req.zero, Chg.av, Chg.zero, Rep.avS, Rep.zero, Blk.avS, Blk.zero, Cert.av, Cert.zero, Sig.avS, Sig.zero, dv]
      refine post_end (.inr rfl) ?_
      simp
    · simp [c3, hdec]
      refine call_intro m2 ?_ ?_
      · simp [Mail.av, Mail.zero, Plan.av, Plan.zero, Vote.av, Vote.zero, Req.av, Req.zero, Chg.av, Chg.zero, Rep.avS, Rep.zero, Blk.avS, Blk.zero, Cert.av, Cert.zero, Sig.avS, Sig.zero, dv]
      simp [Mail.av, Mail.zero, Plan.av, Plan.zero, Vote.av, Vote.zero, Req.av, Req.zero, Chg.av, Chg.zero, Rep.avS, Rep.zero, Blk.avS, Blk.zero, Cert.av, Cert.zero, Sig.avS, Sig.zero, dv]
      refine post_end (.inr rfl) ?_
      simp
end Go.Proofs.Ytglkfbhjimnboaa.WL

end
section
/-
  CHAPTER 20: walks of laws, second part.
-/
namespace Go.Proofs.Ytglkfbhjimnboaa.WL
open Go
set_option maxHeartbeats 8000000
variable {G : Nat → Option AV}
attribute [local irreducible] sha
attribute [local irreducible] Rd.sig Rd.sig' Rd.blk Rd.blk' Rd.inn Rd.inn' Rd.dg Rd.dg' Rd.rep Rd.rep' Rd.text Rd.text' Rd.req Rd.req' repR decM decE

theorem mailBack_walk (m : Mail) (b : Bytes) (h : m.Len) (hkw : W64 m.kind) : Meets Try.prog G fn_l20_MailBack [m.av, .sl 1 (B b)] [] true (.v (.bool true)) [] := by
  refine meets_of_go mix k_l20_MailBack ⟨by simp, by simp, by simp⟩ ?_
  have mg := greatM_meets (G := G) m h
  have hlim := @Mail.lim_of m
  generalize m.greatM = g at *
  simp
  refine call_intro alive20_meets ?_ ?_
  · simp
  simp
  refine call_intro mg ?_ ?_
  · simp
  simp
  cases g
  case true =>
    simp
    refine post_end (.inr rfl) ?_
    simp
  by_cases c1 : 65536 < b.length
  · have c1i : (65536 : Int) < (b.length : Nat) := by omega
    simp [c1, c1i]
    refine post_end (.inr rfl) ?_
    simp
  have c1i : ¬ (65536 : Int) < (b.length : Nat) := by omega
  have hlim := hlim rfl
  have m1 := encode_meets (G := G) m hlim
  have md := decode_meets (G := G) b (by omega)
  have hag := mail_again b
  have hlb := dec_lim b
  have hbad := decM_bad b
  have msz := msame_refl (G := G) Mail.zero zero_small
  have htb : List.take b.length b = b := List.take_of_length_le (by omega)
  have rest : ∀ x e, decM b = x → decE b = e → True := fun _ _ _ _ => trivial
  generalize hx : decM b = x at *
  generalize hde : decE b = e at *
  by_cases he : encE m = 0
  · obtain ⟨k1, k2, k3, k4⟩ := mail_back m hkw he
    have hle := (encE_zero he).2.1
    have heb : encB m = m.bytes := by unfold encB; rw [if_pos he]
    rw [← heb] at hle
    have m2 := decode_meets (G := G) (encB m) (by omega)
    have hl2 := dec_lim (encB m) k1 (by omega)
    have m3 := encode_meets (G := G) (decM (encB m)) hl2
    rw [k2, k3] at m3
    rw [k1] at m2
    rw [he] at m1
    generalize encB m = y at *
    generalize decM y = z at *
    have k4' : ¬ (z.kind ≠ m.kind) := fun hh => hh k4
    simp [c1, c1i]
    refine call_intro m1 ?_ ?_
    · simp
    simp
    refine call_intro m2 ?_ ?_
    · simp
    simp
    refine call_intro m3 ?_ ?_
    · simp
    simp
    simp [Mail.av, k4]
    refine call_intro md ?_ ?_
    · simp
    simp
    by_cases hd : e = 0
    · obtain ⟨a1, a2⟩ := hag hd
      have m4 := encode_meets (G := G) x (hlb hd (by omega))
      rw [a1, a2] at m4
      simp [hd]
      refine call_intro m4 ?_ ?_
      · simp
      simp
      refine post_end (.inr rfl) ?_
      simp
    · have hxz := hbad hd
      rw [hxz]
      simp [hd]
      refine call_intro msz ?_ ?_
      · simp [Mail.av, Mail.zero, Plan.av, Plan.zero, Vote.av, Vote.zero, Req.av, Req.zero, Chg.av, Chg.zero, Rep.avS, Rep.zero, Blk.avS, Blk.zero, Cert.av, Cert.zero, Sig.avS, Sig.zero, dv]
      simp
      refine post_end (.inr rfl) ?_
      simp
  · simp [c1, c1i]
    refine call_intro m1 ?_ ?_
    · simp
    simp [he]
    refine call_intro md ?_ ?_
    · simp
    simp
    by_cases hd : e = 0
    · obtain ⟨a1, a2⟩ := hag hd
      have m4 := encode_meets (G := G) x (hlb hd (by omega))
      rw [a1, a2] at m4
      simp [hd]
      refine call_intro m4 ?_ ?_
      · simp
      simp
      refine post_end (.inr rfl) ?_
      simp
    · have hxz := hbad hd
      rw [hxz]
      simp [hd]
      refine call_intro msz ?_ ?_
      · simp [Mail.av, Mail.zero, Plan.av, Plan.zero, Vote.av, Vote.zero, Req.av, Req.zero, Chg.av, Chg.zero, Rep.avS, Rep.zero, Blk.avS, Blk.zero, Cert.av, Cert.zero, Sig.avS, Sig.zero, dv]
      simp
      refine post_end (.inr rfl) ?_
      simp

theorem mailParts_walk (m o : Mail) (h : m.Len) (ho : o.Len) : Meets Try.prog G fn_l20_MailParts [m.av, o.av] [] true (.v (.bool true)) [] := by
  refine meets_of_go mix k_l20_MailParts ⟨by simp, by simp, by simp⟩ ?_
  have mg := greatM_meets (G := G) m h
  have mh := greatM_meets (G := G) o ho
  have hlim := @Mail.lim_of m
  have hlio := @Mail.lim_of o
  generalize m.greatM = g at *
  generalize o.greatM = g' at *
  simp
  refine call_intro alive20_meets ?_ ?_
  · simp
  simp
  refine call_intro mg ?_ ?_
  · simp
  simp
  cases g
  case true =>
    simp
    refine post_end (.inr rfl) ?_
    simp
  simp
  refine call_intro mh ?_ ?_
  · simp
  simp
  cases g'
  case true =>
    simp
    refine post_end (.inr rfl) ?_
    simp
  have hlm := hlim rfl
  have hlo := hlio rfl
  have m1 := encode_meets (G := G) m hlm
  obtain ⟨x, hx⟩ : ∃ x : Mail, x = { m with req := if m.kind = 3 then m.req else o.req, height := if m.kind = 4 ∨ m.kind = 6 then m.height else o.height, links := if m.kind = 8 then m.links else o.links, pieces := if m.kind = 9 then m.pieces else o.pieces } := ⟨_, rfl⟩
  have hlx : x.Lim := by
    rw [hx]
    refine ⟨⟨?_, ?_, ?_, ?_, ?_⟩, hlm.plan, hlm.planq, ?_, hlm.rep, hlm.repn, hlm.blk, hlm.blkq, hlm.votes⟩
    · show (if m.kind = 8 then m.links else o.links).length ≤ _
      split
      · exact hlm.l.links
      · exact hlo.l.links
    · show ∀ l ∈ (if m.kind = 8 then m.links else o.links), l.Lim
      split
      · exact hlm.l.link
      · exact hlo.l.link
    · show (linksW (if m.kind = 8 then m.links else o.links)).length ≤ _
      split
      · exact hlm.l.linksW
      · exact hlo.l.linksW
    · show (if m.kind = 9 then m.pieces else o.pieces).length ≤ _
      split
      · exact hlm.l.pieces
      · exact hlo.l.pieces
    · show (pcsB (if m.kind = 9 then m.pieces else o.pieces)).length ≤ _
      split
      · exact hlm.l.pcs
      · exact hlo.l.pcs
    · show (if m.kind = 3 then m.req else o.req).bytes.length ≤ _
      split
      · exact hlm.req
      · exact hlo.req
  have hparts := enc_parts m x (by rw [hx]) (by rw [hx]) (by rw [hx]) (fun k => by rw [hx]; simp [k]) (by rw [hx]) (fun k => by rw [hx]; simp [k]) (by rw [hx]) (by rw [hx]) (fun k => by rw [hx]; simp [k]) (fun k => by rw [hx]; simp [k])
  have m2 := encode_meets (G := G) x hlx
  rw [hparts.1, hparts.2] at m2
  have hxa : x.av = .node [.v (.int .i64 m.kind), m.plan.av, m.vote.av, (if m.kind = 3 then m.req else o.req).av, m.rep.avS, .v (.int .i64 (if m.kind = 4 ∨ m.kind = 6 then m.height else o.height)), m.blk.avS, m.cert.av, .sl 103 (Lnks (if m.kind = 8 then m.links else o.links)), .sl 36 (Pcs (if m.kind = 9 then m.pieces else o.pieces))] := by rw [hx]; rfl
  rw [hxa] at m2
  clear hparts hlx hx hxa
  generalize encB m = y at *
  generalize encE m = e at *
  by_cases k3 : m.kind = 3
  · simp [k3] at m2
    simp [Mail.av, k3]
    refine call_intro m1 ?_ ?_
    · simp [Mail.av, k3]
    simp [Mail.av, k3]
    refine call_intro m2 ?_ ?_
    · simp
    simp
    refine post_end (.inr rfl) ?_
    simp
  by_cases k4 : m.kind = 4
  · simp [k4] at m2
    simp [Mail.av, k4]
    refine call_intro m1 ?_ ?_
    · simp [Mail.av, k4]
    simp [Mail.av, k4]
    refine call_intro m2 ?_ ?_
    · simp
    simp
    refine post_end (.inr rfl) ?_
    simp
  by_cases k6 : m.kind = 6
  · simp [k6] at m2
    simp [Mail.av, k6]
    refine call_intro m1 ?_ ?_
    · simp [Mail.av, k6]
    simp [Mail.av, k6]
    refine call_intro m2 ?_ ?_
    · simp
    simp
    refine post_end (.inr rfl) ?_
    simp
  by_cases k8 : m.kind = 8
  · simp [k8] at m2
    simp [Mail.av, k8]
    refine call_intro m1 ?_ ?_
    · simp [Mail.av, k8]
    simp [Mail.av, k8]
    refine call_intro m2 ?_ ?_
    · simp
    simp
    refine post_end (.inr rfl) ?_
    simp
  by_cases k9 : m.kind = 9
  · simp [k9] at m2
    simp [Mail.av, k9]
    refine call_intro m1 ?_ ?_
    · simp [Mail.av, k9]
    simp [Mail.av, k9]
    refine call_intro m2 ?_ ?_
    · simp
    simp
    refine post_end (.inr rfl) ?_
    simp
  simp [k3, k4, k6, k8, k9] at m2
  simp [Mail.av, k3, k4, k6, k8, k9]
  refine call_intro m1 ?_ ?_
  · simp [Mail.av]
  simp [Mail.av]
  refine call_intro m2 ?_ ?_
  · simp
  simp
  refine post_end (.inr rfl) ?_
  simp
end Go.Proofs.Ytglkfbhjimnboaa.WL

end
section
/-
  CHAPTER 20: what comes in is what the walks ask for.
-/
namespace Go.Proofs.Ytglkfbhjimnboaa.WL
open Go
theorem Req.In.three {q : Req} (h : q.In) : q.In3 := ⟨h.key, h.val, h.old⟩
theorem Mail.In.len {m : Mail} (h : m.In) : m.Len :=
  ⟨fun q hq => (h.blk.qs q hq).three, fun q hq => (h.plan.blk.qs q hq).three, fun l hl q hq => ((h.links l hl).blk.qs q hq).three, h.req.three, h.rep.2, fun p hp => ⟨(h.pieces p hp).data, (h.pieces p hp).path⟩⟩
end Go.Proofs.Ytglkfbhjimnboaa.WL

end
