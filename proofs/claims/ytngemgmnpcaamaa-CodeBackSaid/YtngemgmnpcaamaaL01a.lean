/-
  CHAPTER 01: contracts of the laws' helpers.
-/
import Derived.Test.YtngemgmnpcaamaaS01d
import Derived.Test.YtngemgmnpcaamaaS01e
import Derived.Test.YtngemgmnpcaamaaS01f
import Derived.Test.YtngemgmnpcaamaaP01
namespace Go.Proofs.Ytngemgmnpcaamaa.WL
open Go

theorem great_meets {G : Nat → Option AV} (ps : List Part) (hf : ∀ p ∈ ps, p.Fits) (hn : ps.length ≤ reachBytes) : Meets Try.prog G fn_l01_great [.sl 37 (Pv ps)] [] true (.v (.bool (greatF ps))) [] := by
  refine meets_of_go mix k_l01_great ⟨by simp, by simp, by simp⟩ ?_
  simp
  refine go_up ps.length (fun j (_ : Unit) => textSum (ps.take j) ≤ 16384) (fun j _ c => ⟨[(0, .sl 37 (Pv ps)), (3, .v (.int .i64 (textSum (ps.take j) : Nat))), (6, .sl 37 (Pv ps)), (7, .v (.int .i64 (ps.length : Nat))), (8, .v (.int .i64 (j : Nat)))], [], c⟩)
    () _ (Weak.refl _) (by simp [textSum]) ?_ ?_
  · intro j _ c hj hle
    have hp := hf ps[j] (List.getElem_mem hj)
    have ht := hp.text
    unfold reachBytes at ht
    have hs := textSum_snoc ps j hj
    have hw : IntKind.i64.wrap ((textSum (ps.take j) : Nat) + (ps[j].text.length : Nat)) = ((textSum (ps.take (j + 1)) : Nat) : Int) := by rw [hs, w64_id (by omega)]; omega
    by_cases hgt : (16384 : Int) < (textSum (ps.take (j + 1)) : Nat)
    · have hG : greatF ps = true := by
        have := textSum_take_le ps (j + 1)
        have h2 : 16384 < textSum ps := by omega
        simp [greatF, h2]
      simp [hj, Part.av, hw, hgt]
      refine post_end (.inr rfl) ?_
      simp [hG]
    · have hn : j < 4611686018427387904 := by unfold reachBytes at hn; omega
      simp [hj, Part.av, hw, hgt, w64_succ hn]
      exact ⟨(), _, (Weak.keep [] _ _ _).trans (Weak.refl _), by omega⟩
  · intro _ c hle
    simp at hle
    have hG : greatF ps = decide ((200 : Int) < ps.length) := by
      have h2 : ¬ 16384 < textSum ps := by omega
      simp only [greatF, h2, decide_false, Bool.false_or]
      congr 1
      apply propext
      omega
    simp
    refine post_end (.inr rfl) ?_
    simp [hG]

def aliveB : Bytes := [0, 0, 0, 0, 0, 0, 1, 2, 0, 0, 0, 2, 97, 98]

theorem alive_meets {G : Nat → Option AV} : Meets Try.prog G fn_l01_alive [] [] true (.v (.bool true)) [] := by
  refine meets_of_go mix k_l01_alive ⟨by simp, by simp, by simp⟩ ?_
  simp
  have h1 := wnum_meets (G := G) [] [258] (by decide)
  rw [show ([] : Bytes) ++ nums [258] = [0, 0, 0, 0, 0, 0, 1, 2] by decide +kernel] at h1
  refine call_intro h1 ?_ ?_
  · simp [wrM, I64]
  simp [wrM, I64]
  have h2 := wtext_meets (G := G) [0, 0, 0, 0, 0, 0, 1, 2] [[97, 98]] (by decide +kernel) (by decide)
  rw [show ([0, 0, 0, 0, 0, 0, 1, 2] : Bytes) ++ txts [[97, 98]] = aliveB by decide +kernel] at h2
  refine call_intro h2 ?_ ?_
  · simp [wrM, Strs]
  simp [wrM, Strs]
  refine call_intro (bytes_meets aliveB (by decide)) ?_ ?_
  · simp [wrM]
  simp [wrM]
  refine call_intro (read_meets aliveB (fits (by decide) (by decide))) ?_ ?_
  · simp
  simp
  refine call_intro (bytes_meets aliveB (by decide)) ?_ ?_
  · simp [wrM]
  simp [wrM, show (aliveB == [0, 0, 0, 0, 0, 0, 1, 2, 0, 0, 0, 2, 97, 98]) = true by decide]
  have h3 := num_meets (G := G) (Rd.of aliveB)
  rw [show (Rd.of aliveB).num = 258 by decide +kernel] at h3
  refine call_intro h3 ?_ ?_
  · simp [rdM, Rd.of]
  simp [rdM, Rd.of]
  have h4 := text_meets (G := G) (Rd.of aliveB).num' 2
  rw [show (Rd.of aliveB).num'.text 2 = [97, 98] by decide +kernel] at h4
  refine call_intro h4 ?_ ?_
  · simp [rdM, Rd.of]
  simp [rdM, Rd.of]
  have h5 := end_meets (G := G) ((Rd.of aliveB).num'.text' 2)
  rw [show ((Rd.of aliveB).num'.text' 2).done = true by decide +kernel] at h5
  refine call_intro h5 ?_ ?_
  · simp [rdM, Rd.of]
  simp [rdM, Rd.of]
  refine post_end (.inr rfl) ?_
  simp

theorem written_meets {G : Nat → Option AV} (ps : List Part) (hf : ∀ p ∈ ps, p.Fits) (hn : ps.length ≤ 200) (ht : textSum ps ≤ 16384) : Meets Try.prog G fn_l01_written [.sl 37 (Pv ps)] [] true (.tup [.row 3000 1 1 0 (outs ps).length, .v (.string (mkS (outs ps)))]) [(3000, .rows 1 1 (B (outs ps)))] := by
  refine meets_of_go mix k_l01_written ⟨by simp, by simp, by simp⟩ ?_
  simp
  refine go_up ps.length (fun _ _ => True) (fun j (_ : Unit) c => ⟨[(4, .ptr 9 c 0), (5, .v (.string (mkS (outs (ps.take j))))), (10, .sl 37 (Pv ps)), (11, .v (.int .i64 (ps.length : Nat))), (12, .v (.int .i64 (j : Nat)))],
    [(9, .var c (.node [.row 2000 1 c 0 (outs (ps.take j)).length])), (2000, .rows c 1 (B (outs (ps.take j))))], c + 1⟩) () _ (Weak.re (by simp [outs])) trivial ?_ ?_
  · intro j _ c hj _
    have hp := hf ps[j] (List.getElem_mem hj)
    have hw : IntKind.i64.wrap ((j : Int) + 1) = ((j + 1 : Nat) : Int) := w64_succ (by omega)
    have hso := outs_snoc ps j hj
    have hlo := outs_le (ps.take j)
    have hts := textSum_snoc ps j hj
    have htl := textSum_take_le ps (j + 1)
    rw [List.length_take] at hlo
    have hsz : (outs (ps.take j)).length + ps[j].text.length ≤ 100000 := by omega
    by_cases h1 : ps[j].kind = 1
    · have ho : ps[j].out = txt ps[j].text := by simp [Part.out, h1]
      rw [ho] at hso
      simp [hj, Part.av, h1]
      have hc := wtext_meets (G := G) (outs (ps.take j)) [ps[j].text] (by simp [txts]; omega) (by simp)
      refine call_intro hc ?_ ?_
      · simp [wrM, Strs]
      simp [wrM, Strs]
      refine call_intro (rftext_meets ps[j].text (by omega)) ?_ ?_
      · simp
      have hS : fitsS ((outs (ps.take j)).length + (4 + ps[j].text.length)) := fitS (by omega)
      simp [hS, hw]
      exact ⟨(), _, Weak.re (by simp [hso, txts]), trivial⟩
    · by_cases h2 : ps[j].kind = 2
      · have ho : ps[j].out = ps[j].dg.bs := by simp [Part.out, h2]
        rw [ho] at hso
        simp [hj, Part.av, h2]
        have hc := wdigest_meets (G := G) (outs (ps.take j)) [ps[j].dg] (by simp; omega)
        refine call_intro hc ?_ ?_
        · simp [wrM, Dgs]
        simp [wrM, Dgs]
        refine call_intro (rfdigest_meets ps[j].dg) ?_ ?_
        · simp
        have hS : fitsS ((outs (ps.take j)).length + 32) := fitS (by omega)
        simp [hS, hw]
        exact ⟨(), _, Weak.re (by simp [hso, flatD]), trivial⟩
      · have ho : ps[j].out = be8 ps[j].num := by simp [Part.out, h1, h2]
        rw [ho] at hso
        simp [hj, Part.av, h1, h2]
        have hc := wnum_meets (G := G) (outs (ps.take j)) [ps[j].num] (by simp; omega)
        refine call_intro hc ?_ ?_
        · simp [wrM, I64]
        simp [wrM, I64]
        refine call_intro (rfnum_meets ps[j].num) ?_ ?_
        · simp
        have hS : fitsS ((outs (ps.take j)).length + 8) := fitS (by omega)
        simp [hS, hw]
        exact ⟨(), _, Weak.re (by simp [hso, nums]), trivial⟩
  · intro _ c _
    have hsz := outs_le ps
    simp
    refine call_intro (bytes_meets (outs ps) (by omega)) ?_ ?_
    · simp [wrM]
    simp [wrM]
    refine post_end (.inr rfl) ?_
    simp
end Go.Proofs.Ytngemgmnpcaamaa.WL
