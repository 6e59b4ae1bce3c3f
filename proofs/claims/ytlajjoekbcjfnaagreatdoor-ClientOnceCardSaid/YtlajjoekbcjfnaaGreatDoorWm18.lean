import Derived.Test.YtlajjoekbcjfnaaGreatDoorWm17
import Derived.Test.YtlajjoekbcjfnaaGreatDoorRows
import Derived.ProofKit
import Derived.LaidMore
import Derived.Lib.LaidTab
namespace Go.Proofs.YtlajjoekbcjfnaaGreatDoor.WL
set_option linter.all false

section
open Go
set_option maxHeartbeats 4000000
attribute [local irreducible] sha comp hb checkK decM decE encB encE idxOf Conf.good Req.good
structure InvO (c : Cli) (was : Rep) (done : Bool) (num i : Nat) : Prop where
  ok : c.Ok
  once : Once c
  nq : c.req.num = (num : Int)
  le : num ≤ i
  base : c.base + c.told.length ≤ i
  calm : c.first.calm
  done : done = true → c.opn = false ∧ num ≠ 0 ∧ was = c.rep
theorem InvO.succ {c : Cli} {was : Rep} {done : Bool} {num i : Nat} (h : InvO c was done num i) : InvO c was done num (i + 1) := ⟨h.ok, h.once, h.nq, Nat.le_succ_of_le h.le, Nat.le_succ_of_le h.base, h.calm, h.done⟩
theorem InvO.hear {c : Cli} {was : Rep} {done : Bool} {num i : Nat} (h : InvO c was done num i) (hi : i < 60) (k : Int) {f : Bytes} (hf : f.length ≤ 900000) : InvO (hearC c k f) was done num (i + 1) := by
  have hb := h.base
  obtain ⟨s, hl, ho⟩ := JVi c k f
  exact ⟨JYC k h.ok (by omega) hf, ho h.once, by rw [s.req]; exact h.nq, Nat.le_succ_of_le h.le, by rw [s.base]; omega, by rw [s.first]; exact h.calm, fun hd => by
    obtain ⟨h1, h2, h3⟩ := h.done hd
    obtain ⟨k1, k2⟩ := s.shut h1
    exact ⟨k1, h2, h3.trans k2.symm⟩⟩
theorem InvO.ask {c : Cli} {was : Rep} {done : Bool} {num i : Nat} (h : InvO c was done num i) (hi : i < 60) (o : Req) : InvO (askC c o) was false (num + 1) (i + 1) := by
  have hb := h.base
  have hn := h.nq
  refine ⟨⟨h.ok.ms, h.ok.few, by simp [askC], by show c.base + c.told.length ≤ 1000000; omega, fun p hp => by simp [askC] at hp, h.ok.rep⟩, ⟨fun p hp => by simp [askC] at hp, fun ho => by cases ho⟩, ?_, Nat.succ_le_succ h.le, ?_, h.calm, fun hd => by cases hd⟩
  · show c.req.num + 1 = ((num + 1 : Nat) : Int)
    omega
  · show c.base + c.told.length + 0 ≤ i + 1
    omega
theorem InvO.none {c : Cli} {was : Rep} {done : Bool} {num i : Nat} (h : InvO c was done num i) : InvO c Rep.zero false num i := ⟨h.ok, h.once, h.nq, h.le, h.base, h.calm, fun hd => by cases hd⟩
theorem InvO.some {c : Cli} {was : Rep} {done : Bool} {num i : Nat} (h : InvO c was done num i) (ho : c.opn = false) (hn : num ≠ 0) : InvO c c.rep true num i := ⟨h.ok, h.once, h.nq, h.le, h.base, h.calm, fun _ => ⟨ho, hn, rfl⟩⟩
theorem J1p (a : Rep) : a.bytes.length = 32 + 4 * a.vals.length + tot a.vals := by
  have h := JMX a.vals
  have e : lenSum a.vals = tot a.vals := rfl
  unfold Rep.bytes
  rw [List.length_append, Jg, h, e]
  simp only [List.length_cons, List.length_nil]
  omega
theorem J2z (a : Rep) : (encB (ansM a)).length ≤ 262144 := by
  unfold encB
  split
  · rename_i h
    exact (JMi h).2.1
  · simp
theorem JoS (a : Rep) : a.same a = true := by simp [Rep.same]
theorem JMs (o : Req) (ps : List Cal) (ho : o.In) (hf : ∀ a ∈ ps, a.In) (hl : ps.length ≤ 1000000000000) : Meets Tryz.prog Gt Jn2 [opA o, .sl 48 (Cals ps)] [] true (.v (.bool true)) [] := by
  refine Jc mix JLM ⟨by simp, by simp, by simp⟩ ?_
  have m1 := JK0 (G := Gt)
  have m2 := JGR (G := Gt) four22 ps hf hl
  have m3 := JGR (G := Gt) four22 [⟨0, o, 0, [], 0, Rep.zero⟩] (fun a ha => by
    obtain rfl := List.mem_singleton.1 ha
    exact ⟨by simp [W64], ho, by simp [W64], by simp, by simp [W64], by simp [Rep.zero, W64], by simp [Rep.zero, W64], by simp [Rep.zero, W64], by simp [Rep.zero]⟩) (by simp)
  have m4 := JOf (G := Gt) 9 four22 (by omega) (by omega) JMl (by simp [four22])
  have hcal : Cals [⟨0, o, 0, [], 0, Rep.zero⟩] = [.node [.v (.int .i64 0), opA o, .v (.int .i64 0), .v (.string (mkS [])), .v (.int .i64 0), Rep.zero.avS]] := rfl
  have hzr : Rep.zero.avS = .node [.v (.int .i64 0), .v (.int .i64 0), .v (.int .i64 0), .sl 1 []] := rfl
  rw [hcal, hzr] at m3
  have hfa : four22.av = .node [.v (.int .i64 0), .sl 34 (Mems four22.ms)] := rfl
  rw [hfa] at m1 m2 m3 m4
  simp
  refine Ja JPO ?_ ?_
  · simp
  simp
  refine Ja m1 ?_ ?_
  · simp
  simp
  refine Ja m2 ?_ ?_
  · simp
  simp
  cases hg : great22 four22 ps
  case true =>
    simp
    refine Jb (.inr rfl) ?_
    simp
  simp
  refine Ja m3 ?_ ?_
  · simp
  simp
  cases hg2 : great22 four22 [⟨0, o, 0, [], 0, Rep.zero⟩]
  case true =>
    simp
    refine Jb (.inr rfl) ?_
    simp
  simp
  refine Ja m4 ?_ ?_
  · simp
  simp
  have hcl : closeds (Cals ps) = true := by simp
  have hrc : repE 0 [] = [] := rfl
  refine go_up ps.length (fun i (a : Cli × Rep × Bool × Nat) => InvO a.1 a.2.1 a.2.2.1 a.2.2.2 i) (fun i a c => ⟨[(6, .ptr 1000 c 0), (8, .ptr 8 c 0), (9, .v (.bool a.2.2.1)), (10, .v (.int .i64 (a.2.2.2 : Nat))), (38, .sl 48 (Cals ps)), (39, .v (.int .i64 (ps.length : Nat))), (40, .v (.int .i64 (i : Nat)))],
    [(8, .var c a.2.1.avS), (1000, .var c (cliV c a.1)), (1001, cliT c a.1)], c + 1⟩) (cli0 9 four22, Rep.zero, false, 0) _ (Weak.re (by simp [hzr, hcl, cliV, cliT, hrc, cli0])) ?_ ?_ ?_
  · exact ⟨⟨by simp [four22, cli0], by simp [four22, cli0], by simp [cli0], by simp [cli0], by simp [cli0], ⟨by simp [cli0, Rep.zero, Rep.bytes, Jg, txts], by simp [cli0, Rep.zero]⟩⟩, ⟨by simp [cli0], fun _ h => absurd rfl h⟩, rfl, Nat.le_refl _, by simp [cli0], JEZ, by simp⟩
  · rintro i ⟨cl, was, done, num⟩ c hi hinv
    dsimp only at hinv
    obtain ⟨x, hx⟩ : ∃ x, ps[i] = x := ⟨_, rfl⟩
    have hget : (Cals ps)[i]? = some x.av := by rw [← hx]; unfold Cals; rw [List.getElem?_map, List.getElem?_eq_getElem hi]; rfl
    have hxf : x.In := hx ▸ hf ps[i] (List.getElem_mem hi)
    have hw : IntKind.i64.wrap ((i : Int) + 1) = ((i + 1 : Nat) : Int) := Jh (by omega)
    have hii : (i : Int) < (ps.length : Nat) := by omega
    have hav : x.av = .node [.v (.int .i64 x.kind), opA x.op, .v (.int .i64 x.src), .v (.string (mkS x.frame)), .v (.int .i64 x.n), .node [.v (.int .i64 x.a.client), .v (.int .i64 x.a.num), .v (.int .i64 x.a.code), .sl 1 (Strs x.a.vals)]] := rfl
    rw [hav] at hget
    generalize Cals ps = cs at *
    simp [hi, hii, hget]
    have hps : ps.length ≤ 60 := by
      unfold great22 at hg
      simp only [Bool.or_eq_false_iff, decide_eq_false_iff_not] at hg
      omega
    have hi60 : i < 60 := by omega
    have hsum : sum22 ps ≤ 131072 := by
      unfold great22 at hg
      simp only [Bool.or_eq_false_iff, decide_eq_false_iff_not] at hg
      omega
    have hxz : x.frame.length + x.op.key.length + x.op.val.length + x.op.old.length + tot x.a.vals ≤ 131072 := by
      have h1 := JOs ps hi
      have h2 := JTW ps (i + 1)
      rw [hx] at h1
      simp only [Cal.size] at h1
      omega
    have hxv : x.a.vals.length ≤ 300 := by
      unfold great22 at hg
      simp only [Bool.or_eq_false_iff] at hg
      have h1 := List.any_eq_false.1 hg.1.2 ps[i] (List.getElem_mem hi)
      rw [hx] at h1
      simpa using h1
    clear hg hg2 m1 m2 m3 m4 hf hfa hcal hget
    by_cases k0 : x.kind = 0
    · have hnr : 0 ≤ cl.req.num ∧ cl.req.num ≤ 1000000 := by have := hinv.nq; have := hinv.le; omega
      by_cases hop : cl.opn = true
      · have m5 := JY4 (G := Gt) cl x.op hop
        rw [← opA_V] at m5
        have i2 := hinv.succ
        have m7 := Jnj (G := Gt) cl
        simp [k0]
        refine Ja m5 ?_ ?_
        · simp [cliM, cliV, cliT]
        simp [cliM, cliV, cliT]
        by_cases hr : cl.opn = true ∨ cl.req.num = 0
        · have m6 := Jon (G := Gt) cl hr
          have hd : done = false := by
            cases h : done
            · rfl
            · obtain ⟨h1, h2, _⟩ := i2.done h
              have := i2.nq
              rcases hr with hr | hr
              · rw [h1] at hr; cases hr
              · omega
          rw [hzr] at m6
          refine Ja m6 ?_ ?_
          · simp [cliM, cliV, cliT]
          simp [cliM, cliV, cliT]
          refine Ja m7 ?_ ?_
          · simp [cliM, cliV, cliT]
          simp [cliM, cliV, cliT, i2.nq, hw, hd]
          exact ⟨(cl, Rep.zero, false, num), _, Weak.re (by simp [cliV, cliT, hzr, hcl]), i2.none⟩
        · have hso : cl.opn = false := by
            cases h : cl.opn
            · rfl
            · exact absurd (.inl h) hr
          have hsn : cl.req.num ≠ 0 := fun h => hr (.inr h)
          have m6 := Jm3 (G := Gt) cl hso hsn i2.ok.rep.vals
          have m8 := Jf8 (G := Gt) cl.rep cl.rep (by have := i2.ok.rep.vals; omega)
          rw [JoS] at m8
          have hrn := (i2.once.rep hso hsn).trans i2.nq
          have hrv : cl.rep.avS = .node [.v (.int .i64 cl.rep.client), .v (.int .i64 (num : Nat)), .v (.int .i64 cl.rep.code), .sl 1 (Strs cl.rep.vals)] := by rw [← hrn]; rfl
          have hnn : num ≠ 0 := by have := i2.nq; omega
          rw [hrv] at m6 m8
          cases hd : done
          case false =>
            refine Ja m6 ?_ ?_
            · simp [cliM, cliV, cliT, hrv]
            simp [cliM, cliV, cliT, hrv]
            refine Ja m7 ?_ ?_
            · simp [cliM, cliV, cliT, hrv]
            simp [cliM, cliV, cliT, i2.nq, hw, hd, hrv]
            exact ⟨(cl, cl.rep, true, num), _, Weak.re (by simp [cliV, cliT, hcl, hrv]), i2.some hso hnn⟩
          case true =>
            obtain ⟨_, _, hwas⟩ := i2.done hd
            rw [hwas]
            refine Ja m6 ?_ ?_
            · simp [cliM, cliV, cliT, hrv]
            simp [cliM, cliV, cliT, hrv]
            refine Ja m7 ?_ ?_
            · simp [cliM, cliV, cliT, hrv]
            simp [cliM, cliV, cliT, i2.nq, hw, hd, hrv]
            refine Ja m8 ?_ ?_
            · simp [hrv]
            simp [hrv, hw]
            exact ⟨(cl, cl.rep, true, num), _, Weak.re (by simp [cliV, cliT, hcl, hrv]), i2.some hso hnn⟩
      · have hop' : cl.opn = false := by simpa using hop
        cases hgd : (askQ cl x.op).good
        · have m5 := J2A (G := Gt) cl x.op hop' hnr hgd
          rw [← opA_V] at m5
          have i2 := hinv.succ
          have m7 := Jnj (G := Gt) cl
          simp [k0]
          refine Ja m5 ?_ ?_
          · simp [cliM, cliV, cliT]
          simp [cliM, cliV, cliT]
          by_cases hr : cl.opn = true ∨ cl.req.num = 0
          · have m6 := Jon (G := Gt) cl hr
            have hd : done = false := by
              cases h : done
              · rfl
              · obtain ⟨h1, h2, _⟩ := i2.done h
                have := i2.nq
                rcases hr with hr | hr
                · rw [h1] at hr; cases hr
                · omega
            rw [hzr] at m6
            refine Ja m6 ?_ ?_
            · simp [cliM, cliV, cliT]
            simp [cliM, cliV, cliT]
            refine Ja m7 ?_ ?_
            · simp [cliM, cliV, cliT]
            simp [cliM, cliV, cliT, i2.nq, hw, hd]
            exact ⟨(cl, Rep.zero, false, num), _, Weak.re (by simp [cliV, cliT, hzr, hcl]), i2.none⟩
          · have hso : cl.opn = false := by
              cases h : cl.opn
              · rfl
              · exact absurd (.inl h) hr
            have hsn : cl.req.num ≠ 0 := fun h => hr (.inr h)
            have m6 := Jm3 (G := Gt) cl hso hsn i2.ok.rep.vals
            have m8 := Jf8 (G := Gt) cl.rep cl.rep (by have := i2.ok.rep.vals; omega)
            rw [JoS] at m8
            have hrn := (i2.once.rep hso hsn).trans i2.nq
            have hrv : cl.rep.avS = .node [.v (.int .i64 cl.rep.client), .v (.int .i64 (num : Nat)), .v (.int .i64 cl.rep.code), .sl 1 (Strs cl.rep.vals)] := by rw [← hrn]; rfl
            have hnn : num ≠ 0 := by have := i2.nq; omega
            rw [hrv] at m6 m8
            cases hd : done
            case false =>
              refine Ja m6 ?_ ?_
              · simp [cliM, cliV, cliT, hrv]
              simp [cliM, cliV, cliT, hrv]
              refine Ja m7 ?_ ?_
              · simp [cliM, cliV, cliT, hrv]
              simp [cliM, cliV, cliT, i2.nq, hw, hd, hrv]
              exact ⟨(cl, cl.rep, true, num), _, Weak.re (by simp [cliV, cliT, hcl, hrv]), i2.some hso hnn⟩
            case true =>
              obtain ⟨_, _, hwas⟩ := i2.done hd
              rw [hwas]
              refine Ja m6 ?_ ?_
              · simp [cliM, cliV, cliT, hrv]
              simp [cliM, cliV, cliT, hrv]
              refine Ja m7 ?_ ?_
              · simp [cliM, cliV, cliT, hrv]
              simp [cliM, cliV, cliT, i2.nq, hw, hd, hrv]
              refine Ja m8 ?_ ?_
              · simp [hrv]
              simp [hrv, hw]
              exact ⟨(cl, cl.rep, true, num), _, Weak.re (by simp [cliV, cliT, hcl, hrv]), i2.some hso hnn⟩
        · have m5 := JRl (G := Gt) cl x.op hop' hnr hgd (by rw [Req.bytes_len]; dsimp only [askQ]; omega)
          rw [← opA_V] at m5
          have i2 := hinv.ask hi60 x.op
          have hPc := JLC (mailQ (askQ cl x.op))
          have m7 := Jnj (G := Gt) (askC cl x.op)
          obtain ⟨n2, hn2⟩ : ∃ n2 : Nat, n2 = num + 1 := ⟨_, rfl⟩
          have hwn : IntKind.i64.wrap ((num : Int) + 1) = (n2 : Int) := by rw [hn2]; exact Jh (by have := hinv.le; omega)
          rw [← hn2] at i2
          generalize askC cl x.op = c2 at *
          generalize postL (mailQ (askQ cl x.op)) = P at *
          simp [k0]
          refine Ja m5 ?_ ?_
          · simp [cliM, cliV, cliT]
          simp [cliM, cliV, cliT, hPc, hwn]
          by_cases hr : c2.opn = true ∨ c2.req.num = 0
          · have m6 := Jon (G := Gt) c2 hr
            rw [hzr] at m6
            refine Ja m6 ?_ ?_
            · simp [cliM, cliV, cliT]
            simp [cliM, cliV, cliT]
            refine Ja m7 ?_ ?_
            · simp [cliM, cliV, cliT]
            simp [cliM, cliV, cliT, i2.nq, hw]
            exact ⟨(c2, Rep.zero, false, n2), _, Weak.re (by simp [cliV, cliT, hzr, hcl]), i2.none⟩
          · have hso : c2.opn = false := by
              cases h : c2.opn
              · rfl
              · exact absurd (.inl h) hr
            have hsn : c2.req.num ≠ 0 := fun h => hr (.inr h)
            have m6 := Jm3 (G := Gt) c2 hso hsn i2.ok.rep.vals
            have m8 := Jf8 (G := Gt) c2.rep c2.rep (by have := i2.ok.rep.vals; omega)
            rw [JoS] at m8
            have hrn := (i2.once.rep hso hsn).trans i2.nq
            have hrv : c2.rep.avS = .node [.v (.int .i64 c2.rep.client), .v (.int .i64 (n2 : Nat)), .v (.int .i64 c2.rep.code), .sl 1 (Strs c2.rep.vals)] := by rw [← hrn]; rfl
            have hnn : n2 ≠ 0 := by have := i2.nq; omega
            rw [hrv] at m6 m8
            refine Ja m6 ?_ ?_
            · simp [cliM, cliV, cliT, hrv]
            simp [cliM, cliV, cliT, hrv]
            refine Ja m7 ?_ ?_
            · simp [cliM, cliV, cliT, hrv]
            simp [cliM, cliV, cliT, i2.nq, hw, hrv]
            exact ⟨(c2, c2.rep, true, n2), _, Weak.re (by simp [cliV, cliT, hcl, hrv]), i2.some hso hnn⟩
    by_cases k1 : x.kind = 1
    · have hfr : x.frame.length ≤ 900000 := by omega
      have m5 := Jpn cl x.src x.frame hinv.ok (by have := hinv.base; omega) hfr hinv.calm
      have i2 := hinv.hear hi60 x.src hfr
      have m7 := Jnj (G := Gt) (hearC cl x.src x.frame)
      generalize hearC cl x.src x.frame = c2 at *
      simp [k0, k1]
      refine Ja m5 ?_ ?_
      · simp [cliM, cliV, cliT]
      simp [cliM, cliV, cliT]
      by_cases hr : c2.opn = true ∨ c2.req.num = 0
      · have m6 := Jon (G := Gt) c2 hr
        have hd : done = false := by
          cases h : done
          · rfl
          · obtain ⟨h1, h2, _⟩ := i2.done h
            have := i2.nq
            rcases hr with hr | hr
            · rw [h1] at hr; cases hr
            · omega
        rw [hzr] at m6
        refine Ja m6 ?_ ?_
        · simp [cliM, cliV, cliT]
        simp [cliM, cliV, cliT]
        refine Ja m7 ?_ ?_
        · simp [cliM, cliV, cliT]
        simp [cliM, cliV, cliT, i2.nq, hw, hd]
        exact ⟨(c2, Rep.zero, false, num), _, Weak.re (by simp [cliV, cliT, hzr, hcl]), i2.none⟩
      · have hso : c2.opn = false := by
          cases h : c2.opn
          · rfl
          · exact absurd (.inl h) hr
        have hsn : c2.req.num ≠ 0 := fun h => hr (.inr h)
        have m6 := Jm3 (G := Gt) c2 hso hsn i2.ok.rep.vals
        have m8 := Jf8 (G := Gt) c2.rep c2.rep (by have := i2.ok.rep.vals; omega)
        rw [JoS] at m8
        have hrn := (i2.once.rep hso hsn).trans i2.nq
        have hrv : c2.rep.avS = .node [.v (.int .i64 c2.rep.client), .v (.int .i64 (num : Nat)), .v (.int .i64 c2.rep.code), .sl 1 (Strs c2.rep.vals)] := by rw [← hrn]; rfl
        have hnn : num ≠ 0 := by have := i2.nq; omega
        rw [hrv] at m6 m8
        cases hd : done
        case false =>
          refine Ja m6 ?_ ?_
          · simp [cliM, cliV, cliT, hrv]
          simp [cliM, cliV, cliT, hrv]
          refine Ja m7 ?_ ?_
          · simp [cliM, cliV, cliT, hrv]
          simp [cliM, cliV, cliT, i2.nq, hw, hd, hrv]
          exact ⟨(c2, c2.rep, true, num), _, Weak.re (by simp [cliV, cliT, hcl, hrv]), i2.some hso hnn⟩
        case true =>
          obtain ⟨_, _, hwas⟩ := i2.done hd
          rw [hwas]
          refine Ja m6 ?_ ?_
          · simp [cliM, cliV, cliT, hrv]
          simp [cliM, cliV, cliT, hrv]
          refine Ja m7 ?_ ?_
          · simp [cliM, cliV, cliT, hrv]
          simp [cliM, cliV, cliT, i2.nq, hw, hd, hrv]
          refine Ja m8 ?_ ?_
          · simp [hrv]
          simp [hrv, hw]
          exact ⟨(c2, c2.rep, true, num), _, Weak.re (by simp [cliV, cliT, hcl, hrv]), i2.some hso hnn⟩
    · obtain ⟨a2, ha2⟩ : ∃ a2 : Rep, a2 = ⟨9, num, x.a.code, x.a.vals⟩ := ⟨_, rfl⟩
      have m9 := JMr (G := Gt) a2 (by rw [ha2, J1p]; dsimp only; omega) (by rw [ha2]; dsimp only; omega)
      have hfr := J2z a2
      have hv2 : a2.avS = .node [.v (.int .i64 9), .v (.int .i64 (num : Nat)), .v (.int .i64 x.a.code), .sl 1 (Strs x.a.vals)] := by rw [ha2]; rfl
      rw [hv2] at m9
      generalize encB (ansM a2) = y at *
      have m5 := Jpn cl x.src y hinv.ok (by have := hinv.base; omega) (by omega) hinv.calm
      have i2 := hinv.hear hi60 x.src (f := y) (by omega)
      have m7 := Jnj (G := Gt) (hearC cl x.src y)
      generalize hearC cl x.src y = c2 at *
      simp [k0, k1]
      refine Ja m9 ?_ ?_
      · simp
      simp
      refine Ja m5 ?_ ?_
      · simp [cliM, cliV, cliT]
      simp [cliM, cliV, cliT]
      by_cases hr : c2.opn = true ∨ c2.req.num = 0
      · have m6 := Jon (G := Gt) c2 hr
        have hd : done = false := by
          cases h : done
          · rfl
          · obtain ⟨h1, h2, _⟩ := i2.done h
            have := i2.nq
            rcases hr with hr | hr
            · rw [h1] at hr; cases hr
            · omega
        rw [hzr] at m6
        refine Ja m6 ?_ ?_
        · simp [cliM, cliV, cliT]
        simp [cliM, cliV, cliT]
        refine Ja m7 ?_ ?_
        · simp [cliM, cliV, cliT]
        simp [cliM, cliV, cliT, i2.nq, hw, hd]
        exact ⟨(c2, Rep.zero, false, num), _, Weak.re (by simp [cliV, cliT, hzr, hcl]), i2.none⟩
      · have hso : c2.opn = false := by
          cases h : c2.opn
          · rfl
          · exact absurd (.inl h) hr
        have hsn : c2.req.num ≠ 0 := fun h => hr (.inr h)
        have m6 := Jm3 (G := Gt) c2 hso hsn i2.ok.rep.vals
        have m8 := Jf8 (G := Gt) c2.rep c2.rep (by have := i2.ok.rep.vals; omega)
        rw [JoS] at m8
        have hrn := (i2.once.rep hso hsn).trans i2.nq
        have hrv : c2.rep.avS = .node [.v (.int .i64 c2.rep.client), .v (.int .i64 (num : Nat)), .v (.int .i64 c2.rep.code), .sl 1 (Strs c2.rep.vals)] := by rw [← hrn]; rfl
        have hnn : num ≠ 0 := by have := i2.nq; omega
        rw [hrv] at m6 m8
        cases hd : done
        case false =>
          refine Ja m6 ?_ ?_
          · simp [cliM, cliV, cliT, hrv]
          simp [cliM, cliV, cliT, hrv]
          refine Ja m7 ?_ ?_
          · simp [cliM, cliV, cliT, hrv]
          simp [cliM, cliV, cliT, i2.nq, hw, hd, hrv]
          exact ⟨(c2, c2.rep, true, num), _, Weak.re (by simp [cliV, cliT, hcl, hrv]), i2.some hso hnn⟩
        case true =>
          obtain ⟨_, _, hwas⟩ := i2.done hd
          rw [hwas]
          refine Ja m6 ?_ ?_
          · simp [cliM, cliV, cliT, hrv]
          simp [cliM, cliV, cliT, hrv]
          refine Ja m7 ?_ ?_
          · simp [cliM, cliV, cliT, hrv]
          simp [cliM, cliV, cliT, i2.nq, hw, hd, hrv]
          refine Ja m8 ?_ ?_
          · simp [hrv]
          simp [hrv, hw]
          exact ⟨(c2, c2.rep, true, num), _, Weak.re (by simp [cliV, cliT, hcl, hrv]), i2.some hso hnn⟩
  · rintro ⟨c2, was, done, num⟩ c _
    simp
    refine Jb (.inr rfl) ?_
    simp
end
section
open Go
theorem gTable : Tryz.prog.globalNamed "wapentake/sha.table" = some 0 := by kernel_rfl
def tableZ : List Int := table.map w32
theorem J1d {H : Type} : (Rows.laid_wapentake_sha_table : DataW H) = Lib.tabData .u32 tableZ := rfl
theorem JYn {C : Ctx} : ∀ ws : List UInt32, Es C 1 (U ws) (ws.map fun z => Value.int .u32 (w32 z))
  | [] => rfl
  | w :: ws => ⟨[_], _, rfl, rfl, ⟨rfl, rfl⟩, JYn ws⟩
theorem JVb {W : World} (h : laidMetH Tryz.prog [("wapentake/sha.table", Rows.laid_wapentake_sha_table)] W) : GR ⟨W, fun k => k < W.heap.size, fun _ => none, fun _ => none, fun g => g = 0⟩ Gt := by
  rw [MakeChecks.laidMetH_plain _ _ _ (by kernel_rfl), J1d] at h
  have hT : Lib.TabIs Tryz.prog W "wapentake/sha.table" .u32 tableZ := by
    refine Lib.tabIs_of_head (t := 211) (e := 202) (n := 64) gTable ?_ ?_ ?_ ?_ ?_ h
    · kernel_rfl
    · kernel_rfl
    · kernel_rfl
    · kernel_rfl
    · kernel_rfl
  intro n x hx
  unfold Gt at hx
  split at hx
  · rename_i hn
    subst hn
    cases hx
    refine ⟨by simp [closed, closeds, U, closeds_all], 0, 0, _, rfl, ?_, JYn table, ?_⟩
    · have h0 := hT.cell gTable 0 (by decide)
      show 0 < W.heap.size
      rcases Nat.eq_zero_or_pos W.heap.size with h1 | h1
      · simp [World.cell?, Array.getElem?_eq_none (Nat.le_of_eq h1)] at h0
      · exact h1
    · intro j u hu
      have hj : j < table.length := by
        rcases Nat.lt_or_ge j table.length with h1 | h1
        · exact h1
        · rw [List.getElem?_eq_none (by simpa using h1)] at hu
          cases hu
      have h1 := hT.cell gTable j (by simpa [tableZ] using hj)
      rw [Nat.zero_add, h1]
      simp [List.getElem?_eq_getElem hj] at hu
      rw [← hu]
      simp [tableZ, List.getD_eq_getElem?_getD, List.getElem?_eq_getElem hj]
  · cases hx
end
end Go.Proofs.YtlajjoekbcjfnaaGreatDoor.WL
