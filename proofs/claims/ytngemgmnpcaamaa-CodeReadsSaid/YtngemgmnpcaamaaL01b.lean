/-
  CHAPTER 01: the laws' own walks, first part.
-/
import Derived.Test.YtngemgmnpcaamaaL01a
namespace Go.Proofs.Ytngemgmnpcaamaa.WL
open Go
set_option maxHeartbeats 4000000

theorem sizes_meets {G : Nat → Option AV} (ps : List Part) (hf : ∀ p ∈ ps, p.Fits) (hn : ps.length ≤ reachBytes) : Meets Try.prog G fn_l01_CodeSizes [.sl 37 (Pv ps)] [] true (.v (.bool true)) [] := by
  refine meets_of_go mix k_l01_CodeSizes ⟨by simp, by simp, by simp⟩ ?_
  simp
  refine call_intro alive_meets ?_ ?_
  · simp
  simp
  refine call_intro (great_meets ps hf hn) ?_ ?_
  · simp
  simp
  refine goC_split (fun hg => ?_) (fun hg => ?_)
  · simp
    refine post_end (.inr rfl) ?_
    simp
  · have hg' : textSum ps ≤ 16384 ∧ ps.length ≤ 200 := by
      simp only [greatF, Bool.or_eq_false_iff, decide_eq_false_iff_not] at hg
      omega
    simp
    refine call_intro (written_meets ps hf hg'.2 hg'.1) ?_ ?_
    · simp
    simp
    refine go_up ps.length (fun _ _ => True) (fun j (_ : Unit) c => ⟨[(3, .row 3000 1 c 0 (outs ps).length), (5, .v (.int .i64 ((outs (ps.take j)).length : Nat))), (17, .sl 37 (Pv ps)), (18, .v (.int .i64 (ps.length : Nat))), (19, .v (.int .i64 (j : Nat)))],
      [(3000, .rows c 1 (B (outs ps)))], c + 1⟩) () _ (Weak.re (by simp [outs])) trivial ?_ ?_
    · intro j _ c hj _
      have hw : IntKind.i64.wrap ((j : Int) + 1) = ((j + 1 : Nat) : Int) := w64_succ (by omega)
      have hso := outs_snoc ps j hj
      have hlo := outs_le (ps.take j)
      have hts := textSum_snoc ps j hj
      have htl := textSum_take_le ps (j + 1)
      rw [List.length_take] at hlo
      by_cases h1 : ps[j].kind = 1
      · have ho : ps[j].out = txt ps[j].text := by simp [Part.out, h1]
        rw [ho] at hso
        have hw1 : IntKind.i64.wrap (4 + (ps[j].text.length : Nat)) = 4 + (ps[j].text.length : Nat) := w64_id (by omega)
        have hw2 : IntKind.i64.wrap (((outs (ps.take j)).length : Nat) + (4 + (ps[j].text.length : Nat))) = ((outs (ps.take j)).length : Nat) + (4 + (ps[j].text.length : Nat)) := w64_id (by omega)
        simp [hj, Part.av, h1, hw, hw1, hw2]
        exact ⟨(), _, Weak.re (by simp [hso]), trivial⟩
      · by_cases h2 : ps[j].kind = 2
        · have ho : ps[j].out = ps[j].dg.bs := by simp [Part.out, h2]
          rw [ho] at hso
          have hw2 : IntKind.i64.wrap (((outs (ps.take j)).length : Nat) + 32) = ((outs (ps.take j)).length : Nat) + 32 := w64_id (by omega)
          simp [hj, Part.av, h2, hw, hw2]
          exact ⟨(), _, Weak.re (by simp [hso]), trivial⟩
        · have ho : ps[j].out = be8 ps[j].num := by simp [Part.out, h1, h2]
          rw [ho] at hso
          have hw2 : IntKind.i64.wrap (((outs (ps.take j)).length : Nat) + 8) = ((outs (ps.take j)).length : Nat) + 8 := w64_id (by omega)
          simp [hj, Part.av, h1, h2, hw, hw2]
          exact ⟨(), _, Weak.re (by simp [hso]), trivial⟩
    · intro _ c _
      simp
      refine post_end (.inr rfl) ?_
      simp

/-- Behind a fault there is nothing. -/
theorem fault_num : Rd.fault.num = 0 ∧ Rd.fault.num' = Rd.fault := ⟨by decide +kernel, by simp [Rd.num', Rd.skip, Rd.ok, Rd.fault]⟩
theorem fault_got (k : Int) : Rd.fault.got k = [] := by simp [Rd.got, Rd.ok, Rd.fault]
theorem fault_skip (k : Int) : Rd.fault.skip k = Rd.fault := by simp [Rd.skip, Rd.ok, Rd.fault]
theorem fault_text (mx : Int) : Rd.fault.text mx = [] ∧ Rd.fault.text' mx = Rd.fault := by simp [Rd.text, Rd.text', fault_skip, fault_got]
theorem fault_dg : Rd.fault.dg = Dg.zero ∧ Rd.fault.dg' = Rd.fault := by
  refine ⟨Dg.ext' ?_, fault_skip 32⟩
  rw [Rd.dg_bs, fault_got]
  rfl
theorem fault_in (lo hi : Int) : Rd.fault.inn lo hi = 0 ∧ Rd.fault.inn' lo hi = Rd.fault := by
  have : Rd.fault.inOk lo hi = false := by unfold Rd.inOk; rw [fault_num.2]; simp [Rd.fault]
  simp [Rd.inn, Rd.inn', this]

theorem stops_meets {G : Nat → Option AV} (bs : Bytes) (ps : List Part) : Meets Try.prog G fn_l01_CodeStops [.sl 1 (B bs), .sl 37 (Pv ps)] [] true (.v (.bool true)) [] := by
  refine meets_of_go mix k_l01_CodeStops ⟨by simp, by simp, by simp⟩ ?_
  simp
  refine call_intro alive_meets ?_ ?_
  · simp
  simp
  by_cases hb : (16384 : Int) < bs.length
  · simp [hb]
    refine post_end (.inr rfl) ?_
    simp
  · by_cases hn : (200 : Int) < ps.length
    · simp [hb, hn]
      refine post_end (.inr rfl) ?_
      simp
    · simp [hb, hn]
      refine call_intro (read_meets bs (fits (by omega) (by omega))) ?_ ?_
      · simp
      simp
      have h1 := text_meets (G := G) (Rd.of bs) (-1)
      have h2 : (Rd.of bs).text (-1) = [] ∧ (Rd.of bs).text' (-1) = Rd.fault := by
        have : (Rd.of bs).len (-1) = -1 := by unfold Rd.len; split <;> omega
        simp [Rd.text, Rd.text', this, Rd.got, Rd.skip, Rd.ok]
      rw [h2.1, h2.2] at h1
      refine call_intro h1 ?_ ?_
      · simp [rdM, Rd.of]
      simp [rdM, Rd.of]
      refine call_intro (good_meets Rd.fault) ?_ ?_
      · simp [rdM, Rd.fault]
      simp [rdM, Rd.fault]
      refine go_up ps.length (fun _ _ => True) (fun j (_ : Unit) c => ⟨[(5, .ptr 1000 c 0), (27, .sl 37 (Pv ps)), (28, .v (.int .i64 (ps.length : Nat))), (29, .v (.int .i64 (j : Nat)))],
        [(1000, .var c (.node [.row 2000 1 c 0 0, .v (.bool true)])), (2000, .rows c 1 [])], c + 1⟩) () _ (Weak.re (by simp)) trivial ?_ ?_
      · intro j _ c hj _
        have hw : IntKind.i64.wrap ((j : Int) + 1) = ((j + 1 : Nat) : Int) := w64_succ (by omega)
        have k1 := num_meets (G := G) Rd.fault
        have k2 := text_meets (G := G) Rd.fault ps[j].num
        have k3 := digest_meets (G := G) Rd.fault
        have k4 := in_meets (G := G) Rd.fault ps[j].lo ps[j].hi
        have k5 := good_meets (G := G) Rd.fault
        have k6 := end_meets (G := G) Rd.fault
        rw [fault_num.1, fault_num.2] at k1
        rw [(fault_text _).1, (fault_text _).2] at k2
        rw [fault_dg.1, fault_dg.2] at k3
        rw [(fault_in _ _).1, (fault_in _ _).2] at k4
        simp [hj, Part.av]
        refine call_intro k1 ?_ ?_
        · simp [rdM, Rd.fault]
        simp [rdM, Rd.fault]
        refine call_intro k2 ?_ ?_
        · simp [rdM, Rd.fault]
        simp [rdM, Rd.fault]
        refine call_intro k3 ?_ ?_
        · simp [rdM, Rd.fault]
        simp [rdM, Rd.fault]
        refine call_intro k4 ?_ ?_
        · simp [rdM, Rd.fault]
        simp [rdM, Rd.fault]
        refine call_intro k5 ?_ ?_
        · simp [rdM, Rd.fault]
        simp [rdM, Rd.fault]
        refine call_intro k6 ?_ ?_
        · simp [rdM, Rd.fault]
        simp [rdM, Rd.fault, Rd.done, hw]
        exact ⟨(), _, Weak.re (by simp), trivial⟩
      · intro _ c _
        simp
        refine post_end (.inr rfl) ?_
        simp

/-- A call's reader behind it. -/
def Part.call (p : Part) (r : Rd) : Rd := if p.kind = 0 then r.num' else if p.kind = 1 then r.text' p.num else if p.kind = 2 then r.dg' else if p.kind = 3 then r.inn' p.lo p.hi else r
def calls (ps : List Part) (r : Rd) : Rd := ps.foldl (fun r p => p.call r) r
theorem calls_snoc (ps : List Part) (j : Nat) (h : j < ps.length) (r : Rd) : calls (ps.take (j + 1)) r = ps[j].call (calls (ps.take j) r) := by
  simp only [calls, take_snoc _ _ h, List.foldl_append, List.foldl_cons, List.foldl_nil]

theorem reads_meets {G : Nat → Option AV} (bs : Bytes) (ps : List Part) : Meets Try.prog G fn_l01_CodeReads [.sl 1 (B bs), .sl 37 (Pv ps)] [] true (.v (.bool true)) [] := by
  refine meets_of_go mix k_l01_CodeReads ⟨by simp, by simp, by simp⟩ ?_
  simp
  refine call_intro alive_meets ?_ ?_
  · simp
  simp
  by_cases hb : (16384 : Int) < bs.length
  · simp [hb]
    refine post_end (.inr rfl) ?_
    simp
  · by_cases hn : (200 : Int) < ps.length
    · simp [hb, hn]
      refine post_end (.inr rfl) ?_
      simp
    · simp [hb, hn]
      refine call_intro (read_meets bs (fits (by omega) (by omega))) ?_ ?_
      · simp
      simp
      refine go_up ps.length (fun _ _ => True) (fun j (_ : Unit) c => ⟨[(5, .ptr 1000 c 0), (6, .ptr 3000 c 0), (7, .v (.pointer none)), (27, .sl 37 (Pv ps)), (28, .v (.int .i64 (ps.length : Nat))), (29, .v (.int .i64 (j : Nat)))],
        [(1000, .var c (.node [.row 2000 1 c (calls (ps.take j) (Rd.of bs)).pre.length (calls (ps.take j) (Rd.of bs)).s.length, .v (.bool (calls (ps.take j) (Rd.of bs)).bad)])), (2000, .rows c 1 (B ((calls (ps.take j) (Rd.of bs)).pre ++ (calls (ps.take j) (Rd.of bs)).s))),
         (3000, .var c (.node [.v (.string (mkS (calls (ps.take j) (Rd.of bs)).s)), .v (.bool (calls (ps.take j) (Rd.of bs)).bad)]))], c + 1⟩) () _ (Weak.re (by simp [calls, Rd.of])) trivial ?_ ?_
      · intro j _ c hj _
        have hw : IntKind.i64.wrap ((j : Int) + 1) = ((j + 1 : Nat) : Int) := w64_succ (by omega)
        have hcs := calls_snoc ps j hj (Rd.of bs)
        generalize calls (ps.take j) (Rd.of bs) = r at *
        obtain ⟨p, hp⟩ : ∃ p, ps[j] = p := ⟨_, rfl⟩
        rw [hp] at hcs
        by_cases h0 : p.kind = 0
        · skip
          have hc : p.call r = r.num' := by simp [Part.call, h0]
          simp [hj, hp, Part.av, h0]
          refine call_intro (num_meets r) ?_ ?_
          · simp [rdM, rfM]
          simp [rdM, rfM]
          refine call_intro (rnum_meets r) ?_ ?_
          · simp [rdM, rfM]
          simp [rdM, rfM]
          refine call_intro (num_nil) ?_ ?_
          · simp
          simp [rdM, rfM]
          refine call_intro (good_meets (r.num')) ?_ ?_
          · simp [rdM, rfM]
          simp [rdM, rfM]
          refine call_intro (rgood_meets (r.num')) ?_ ?_
          · simp [rdM, rfM]
          simp [rdM, rfM]
          refine call_intro (end_meets (r.num')) ?_ ?_
          · simp [rdM, rfM]
          simp [rdM, rfM]
          refine call_intro (rend_meets (r.num')) ?_ ?_
          · simp [rdM, rfM]
          simp [rdM, rfM, hw]
          exact ⟨(), _, Weak.re (by simp [hcs, hc]), trivial⟩
        · by_cases h1 : p.kind = 1
          · skip
            have hc : p.call r = r.text' p.num := by simp [Part.call, h1]
            simp [hj, hp, Part.av, h1]
            refine call_intro (text_meets r p.num) ?_ ?_
            · simp [rdM, rfM]
            simp [rdM, rfM]
            refine call_intro (rtext_meets r p.num) ?_ ?_
            · simp [rdM, rfM]
            simp [rdM, rfM]
            refine call_intro (text_nil p.num) ?_ ?_
            · simp
            simp [rdM, rfM]
            refine call_intro (good_meets (r.text' p.num)) ?_ ?_
            · simp [rdM, rfM]
            simp [rdM, rfM]
            refine call_intro (rgood_meets (r.text' p.num)) ?_ ?_
            · simp [rdM, rfM]
            simp [rdM, rfM]
            refine call_intro (end_meets (r.text' p.num)) ?_ ?_
            · simp [rdM, rfM]
            simp [rdM, rfM]
            refine call_intro (rend_meets (r.text' p.num)) ?_ ?_
            · simp [rdM, rfM]
            simp [rdM, rfM, hw]
            exact ⟨(), _, Weak.re (by simp [hcs, hc]), trivial⟩
          · by_cases h2 : p.kind = 2
            · skip
              have hc : p.call r = r.dg' := by simp [Part.call, h2]
              simp [hj, hp, Part.av, h2]
              refine call_intro (digest_meets r) ?_ ?_
              · simp [rdM, rfM]
              simp [rdM, rfM]
              refine call_intro (rdigest_meets r) ?_ ?_
              · simp [rdM, rfM]
              simp [rdM, rfM]
              refine call_intro (digest_nil) ?_ ?_
              · simp
              simp [rdM, rfM]
              refine call_intro (good_meets (r.dg')) ?_ ?_
              · simp [rdM, rfM]
              simp [rdM, rfM]
              refine call_intro (rgood_meets (r.dg')) ?_ ?_
              · simp [rdM, rfM]
              simp [rdM, rfM]
              refine call_intro (end_meets (r.dg')) ?_ ?_
              · simp [rdM, rfM]
              simp [rdM, rfM]
              refine call_intro (rend_meets (r.dg')) ?_ ?_
              · simp [rdM, rfM]
              simp [rdM, rfM, hw]
              exact ⟨(), _, Weak.re (by simp [hcs, hc]), trivial⟩
            · by_cases h3 : p.kind = 3
              · skip
                have hc : p.call r = r.inn' p.lo p.hi := by simp [Part.call, h3]
                simp [hj, hp, Part.av, h3]
                refine call_intro (in_meets r p.lo p.hi) ?_ ?_
                · simp [rdM, rfM]
                simp [rdM, rfM]
                refine call_intro (rin_meets r p.lo p.hi) ?_ ?_
                · simp [rdM, rfM]
                simp [rdM, rfM]
                refine call_intro (in_nil p.lo p.hi) ?_ ?_
                · simp
                simp [rdM, rfM]
                refine call_intro (good_meets (r.inn' p.lo p.hi)) ?_ ?_
                · simp [rdM, rfM]
                simp [rdM, rfM]
                refine call_intro (rgood_meets (r.inn' p.lo p.hi)) ?_ ?_
                · simp [rdM, rfM]
                simp [rdM, rfM]
                refine call_intro (end_meets (r.inn' p.lo p.hi)) ?_ ?_
                · simp [rdM, rfM]
                simp [rdM, rfM]
                refine call_intro (rend_meets (r.inn' p.lo p.hi)) ?_ ?_
                · simp [rdM, rfM]
                simp [rdM, rfM, hw]
                exact ⟨(), _, Weak.re (by simp [hcs, hc]), trivial⟩
              · skip
                have hc : p.call r = r := by simp [Part.call, h0, h1, h2, h3]
                simp [hj, hp, Part.av, h0, h1, h2, h3]
                refine call_intro (good_meets (r)) ?_ ?_
                · simp [rdM, rfM]
                simp [rdM, rfM]
                refine call_intro (rgood_meets (r)) ?_ ?_
                · simp [rdM, rfM]
                simp [rdM, rfM]
                refine call_intro (end_meets (r)) ?_ ?_
                · simp [rdM, rfM]
                simp [rdM, rfM]
                refine call_intro (rend_meets (r)) ?_ ?_
                · simp [rdM, rfM]
                simp [rdM, rfM, hw]
                exact ⟨(), _, Weak.re (by simp [hcs, hc]), trivial⟩
      · intro _ c _
        simp
        refine call_intro good_nil ?_ ?_
        · simp
        simp
        refine call_intro end_nil ?_ ?_
        · simp
        simp
        refine post_end (.inr rfl) ?_
        simp
end Go.Proofs.Ytngemgmnpcaamaa.WL
