/-
  CHAPTER 01: the laws' own walks, second part.
-/
import Derived.Test.YtngemgmnpcaamaaL01a
namespace Go.Proofs.Ytngemgmnpcaamaa.WL
open Go
set_option maxHeartbeats 4000000

theorem writes_meets {G : Nat → Option AV} (ps : List Part) (ns : List Int) (ss : List Bytes) (hf : ∀ p ∈ ps, p.Fits) (hn : ps.length ≤ reachBytes) (hs : ∀ s ∈ ss, s.length ≤ reachBytes) :
    Meets Try.prog G fn_l01_CodeWrites [.sl 37 (Pv ps), .sl 1 (I64 ns), .sl 1 (Strs ss)] [] true (.v (.bool true)) [] := by
  refine meets_of_go mix k_l01_CodeWrites ⟨by simp, by simp, by simp⟩ ?_
  simp
  refine call_intro alive_meets ?_ ?_
  · simp
  simp
  refine call_intro (great_meets ps hf hn) ?_ ?_
  · simp
  cases hg : greatF ps
  · by_cases h1 : (200 : Int) < ns.length
    · simp [h1]
      refine post_end (.inr rfl) ?_
      simp
    · by_cases h2 : (200 : Int) < ss.length
      · simp [h1, h2]
        refine post_end (.inr rfl) ?_
        simp
      · have hg' : textSum ps ≤ 16384 ∧ ps.length ≤ 200 := by
          simp only [greatF, Bool.or_eq_false_iff, decide_eq_false_iff_not] at hg
          omega
        simp [h1, h2]
        refine call_intro (written_meets ps hf hg'.2 hg'.1) ?_ ?_
        · simp
        simp
        refine go_up ns.length (fun _ _ => True) (fun j (_ : Unit) c => ⟨[(1, .sl 1 (I64 ns)), (2, .sl 1 (Strs ss)), (9, .ptr 1000 c 0), (10, .v (.string (mkS (nums (ns.take j))))), (41, .sl 1 (I64 ns)), (42, .v (.int .i64 (ns.length : Nat))), (43, .v (.int .i64 (j : Nat)))],
          [(1000, .var c (.node [.row 2000 1 c 0 0])), (2000, .rows c 1 [])], c + 1⟩) () _ (Weak.re (by simp [nums])) trivial ?_ ?_
        · intro j _ c hj _
          have hw : IntKind.i64.wrap ((j : Int) + 1) = ((j + 1 : Nat) : Int) := w64_succ (by omega)
          have hS : fitsS ((nums (ns.take j)).length + 8) := fitS (by rw [nums_length, List.length_take]; omega)
          simp [hj]
          refine call_intro (rfnum_meets ns[j]) ?_ ?_
          · simp
          simp [hS, hw]
          exact ⟨(), _, Weak.re (by simp [nums_snoc _ _ hj]), trivial⟩
        · intro _ c _
          simp
          have hc := wnum_meets (G := G) [] ns (by simp; omega)
          refine call_intro hc ?_ ?_
          · simp [wrM]
          simp [wrM]
          refine go_up ss.length (fun j (_ : Unit) => j ≤ ss.length ∧ (txts (ss.take j)).length ≤ 20000) (fun j _ c => ⟨[(2, .sl 1 (Strs ss)), (9, .ptr 1000 c 0), (10, .v (.string (mkS (nums ns ++ txts (ss.take j))))), (55, .sl 1 (Strs ss)), (56, .v (.int .i64 (ss.length : Nat))), (57, .v (.int .i64 (j : Nat)))],
            [(1000, .var c (.node [.row 2000 1 c 0 (nums ns).length])), (2000, .rows c 1 (B (nums ns)))], c + 1⟩) () _ (Weak.re (by simp [txts])) ⟨Nat.zero_le _, by simp [txts]⟩ ?_ ?_
          · rintro j _ c hj ⟨_, hle⟩
            have hw : IntKind.i64.wrap ((j : Int) + 1) = ((j + 1 : Nat) : Int) := w64_succ (by omega)
            have hsj := hs ss[j] (List.getElem_mem hj)
            unfold reachBytes at hsj
            have hnl := nums_length ns
            have hw2 : IntKind.i64.wrap (((nums ns).length : Nat) + ((txts (ss.take j)).length : Nat) + (ss[j].length : Nat)) = ((nums ns).length : Nat) + ((txts (ss.take j)).length : Nat) + (ss[j].length : Nat) := w64_id (by omega)
            by_cases hgt : (16384 : Int) < ((nums ns).length : Nat) + ((txts (ss.take j)).length : Nat) + (ss[j].length : Nat)
            · simp [hj, hw2, hgt]
              refine post_end (.inr rfl) ?_
              simp
            · simp [hj, hw2, hgt]
              refine call_intro (rftext_meets ss[j] (by omega)) ?_ ?_
              · simp
              have hS : fitsS ((nums ns).length + (txts (ss.take j)).length + (4 + ss[j].length)) := fitS (by omega)
              have hsn := txts_snoc ss j hj
              simp [hS, hw]
              exact ⟨(), _, Weak.re (by simp [hsn]), by omega, by rw [hsn, List.length_append, txt_length]; omega⟩
          · rintro _ c ⟨_, hle⟩
            have hnl := nums_length ns
            simp only [List.take_length] at hle
            simp
            have hc := wtext_meets (G := G) (nums ns) ss (by omega) (by omega)
            have hEl : (nums ns ++ txts ss).length ≤ 67108864 := by rw [List.length_append]; omega
            generalize nums ns ++ txts ss = E at hc hEl ⊢
            refine call_intro hc ?_ ?_
            · simp [wrM]
            simp [wrM]
            have k1 := wnum_nil (G := G) [1]
            refine call_intro k1 ?_ ?_
            · simp [I64]
            simp [I64]
            have k2 := wtext_nil (G := G) [[97]]
            refine call_intro k2 ?_ ?_
            · simp [Strs]
            simp [Strs]
            have k3 := wdigest_nil (G := G) [Dg.zero]
            refine call_intro k3 ?_ ?_
            · simp [Dgs]
            simp [Dgs]
            refine call_intro (bytes_meets E hEl) ?_ ?_
            · simp [wrM]
            simp [wrM]
            refine call_intro bytes_nil ?_ ?_
            · simp
            simp
            refine post_end (.inr rfl) ?_
            simp
  · simp
    refine post_end (.inr rfl) ?_
    simp

theorem one_meets {G : Nat → Option AV} (bs : Bytes) (ps : List Part) : Meets Try.prog G fn_l01_CodeOne [.sl 1 (B bs), .sl 37 (Pv ps)] [] true (.v (.bool true)) [] := by
  refine meets_of_go mix k_l01_CodeOne ⟨by simp, by simp, by simp⟩ ?_
  simp
  refine call_intro alive_meets ?_ ?_
  · simp
  simp
  by_cases hb : (16384 : Int) < bs.length
  · simp [hb]
    refine post_end (.inr rfl) ?_
    simp
  · by_cases hn : (200 : Int) < ps.length
    · simp [hb, hn]
      refine post_end (.inr rfl) ?_
      simp
    · simp [hb, hn]
      refine call_intro (read_meets bs (fits (by omega) (by omega))) ?_ ?_
      · simp
      simp
      refine go_up ps.length (fun _ _ => True) (fun j (_ : Unit) c => ⟨[(0, .sl 1 (B bs)), (5, .ptr 1000 c 0), (6, .ptr 3000 c 0), (23, .sl 37 (Pv ps)), (24, .v (.int .i64 (ps.length : Nat))), (25, .v (.int .i64 (j : Nat)))],
        [(1000, .var c (.node [.row 2000 1 c (nexts (ps.take j) (Rd.of bs)).pre.length (nexts (ps.take j) (Rd.of bs)).s.length, .v (.bool (nexts (ps.take j) (Rd.of bs)).bad)])), (2000, .rows c 1 (B ((nexts (ps.take j) (Rd.of bs)).pre ++ (nexts (ps.take j) (Rd.of bs)).s))),
         (3000, .var c (.node [.row 4000 1 c 0 (puts (ps.take j) (Rd.of bs)).length])), (4000, .rows c 1 (B (puts (ps.take j) (Rd.of bs))))], c + 1⟩) () _ (Weak.re (by simp [nexts, puts, Rd.of])) trivial ?_ ?_
      · intro j _ c hj _
        have hw : IntKind.i64.wrap ((j : Int) + 1) = ((j + 1 : Nat) : Int) := w64_succ (by omega)
        have hcs := nexts_snoc ps j hj (Rd.of bs)
        have hps := puts_snoc ps j hj (Rd.of bs)
        have hpl := puts_short (ps.take (j + 1)) (Rd.of bs)
        have hpl2 : (ps.take (j + 1)).length * (32 + (Rd.of bs).s.length) ≤ 200 * (32 + 16384) := Nat.mul_le_mul (by rw [List.length_take]; omega) (by simp [Rd.of]; omega)
        replace hpl := Nat.le_trans hpl hpl2
        rw [hps, List.length_append] at hpl
        generalize nexts (ps.take j) (Rd.of bs) = r at *
        obtain ⟨p, hp⟩ : ∃ p, ps[j] = p := ⟨_, rfl⟩
        rw [hp] at hcs hps hpl
        by_cases h1 : p.kind = 1
        · skip
          have hnx : p.next r = r.text' p.num := by simp [Part.next, h1]
          have hpt : p.put r = txt (r.text p.num) := by simp [Part.put, h1]
          rw [hpt] at hps hpl
          simp [hj, hp, Part.av, h1]
          refine call_intro (text_meets r p.num) ?_ ?_
          · simp [rdM, wrM]
          simp [rdM, wrM]
          refine call_intro (wtext_meets (puts (ps.take j) (Rd.of bs)) [r.text p.num] (by simp [txts] at *; omega) (by simp)) ?_ ?_
          · simp [rdM, wrM, Strs]
          simp [rdM, wrM, Strs]
          simp [hw]
          exact ⟨(), _, Weak.re (by simp [hcs, hnx, hps, nums, txts, flatD]), trivial⟩
        · by_cases h2 : p.kind = 2
          · skip
            have hnx : p.next r = r.dg' := by simp [Part.next, h2]
            have hpt : p.put r = r.dg.bs := by simp [Part.put, h2]
            rw [hpt] at hps hpl
            simp [hj, hp, Part.av, h2]
            refine call_intro (digest_meets r) ?_ ?_
            · simp [rdM, wrM]
            simp [rdM, wrM]
            refine call_intro (wdigest_meets (puts (ps.take j) (Rd.of bs)) [r.dg] (by simp at *; omega)) ?_ ?_
            · simp [rdM, wrM, Dgs]
            simp [rdM, wrM, Dgs]
            simp [hw]
            exact ⟨(), _, Weak.re (by simp [hcs, hnx, hps, nums, txts, flatD]), trivial⟩
          · by_cases h3 : p.kind = 3
            · skip
              have hnx : p.next r = r.inn' p.lo p.hi := by simp [Part.next, h3]
              have hpt : p.put r = be8 (r.inn p.lo p.hi) := by simp [Part.put, h3]
              rw [hpt] at hps hpl
              simp [hj, hp, Part.av, h3]
              refine call_intro (in_meets r p.lo p.hi) ?_ ?_
              · simp [rdM, wrM]
              simp [rdM, wrM]
              refine call_intro (wnum_meets (puts (ps.take j) (Rd.of bs)) [r.inn p.lo p.hi] (by simp at *; omega)) ?_ ?_
              · simp [rdM, wrM, I64]
              simp [rdM, wrM, I64]
              simp [hw]
              exact ⟨(), _, Weak.re (by simp [hcs, hnx, hps, nums, txts, flatD]), trivial⟩
            · skip
              have hnx : p.next r = r.num' := by simp [Part.next, h1, h2, h3]
              have hpt : p.put r = be8 r.num := by simp [Part.put, h1, h2, h3]
              rw [hpt] at hps hpl
              simp [hj, hp, Part.av, h1, h2, h3]
              refine call_intro (num_meets r) ?_ ?_
              · simp [rdM, wrM]
              simp [rdM, wrM]
              refine call_intro (wnum_meets (puts (ps.take j) (Rd.of bs)) [r.num] (by simp at *; omega)) ?_ ?_
              · simp [rdM, wrM, I64]
              simp [rdM, wrM, I64]
              simp [hw]
              exact ⟨(), _, Weak.re (by simp [hcs, hnx, hps, nums, txts, flatD]), trivial⟩
      · intro _ c _
        have hdone := puts_done ps bs
        have hpl := puts_short ps (Rd.of bs)
        have hpl2 : ps.length * (32 + (Rd.of bs).s.length) ≤ 200 * (32 + 16384) := Nat.mul_le_mul (by omega) (by simp [Rd.of]; omega)
        simp
        refine call_intro (end_meets (nexts ps (Rd.of bs))) ?_ ?_
        · simp [rdM]
        cases hd : (nexts ps (Rd.of bs)).done
        · simp [rdM]
          refine post_end (.inr rfl) ?_
          simp
        · have hpb := hdone hd
          simp [rdM]
          refine call_intro (bytes_meets (puts ps (Rd.of bs)) (by omega)) ?_ ?_
          · simp [wrM]
          simp [wrM, hpb]
          refine post_end (.inr rfl) ?_
          simp

theorem back_meets {G : Nat → Option AV} (ps : List Part) (hf : ∀ p ∈ ps, p.Fits) (hn : ps.length ≤ reachBytes) : Meets Try.prog G fn_l01_CodeBack [.sl 37 (Pv ps)] [] true (.v (.bool true)) [] := by
  refine meets_of_go mix k_l01_CodeBack ⟨by simp, by simp, by simp⟩ ?_
  simp
  refine call_intro alive_meets ?_ ?_
  · simp
  simp
  refine call_intro (great_meets ps hf hn) ?_ ?_
  · simp
  cases hg : greatF ps
  · have hg' : textSum ps ≤ 16384 ∧ ps.length ≤ 200 := by
      simp only [greatF, Bool.or_eq_false_iff, decide_eq_false_iff_not] at hg
      omega
    simp
    refine call_intro (written_meets ps hf hg'.2 hg'.1) ?_ ?_
    · simp
    simp
    refine go_up 3 (fun _ _ => True) (fun j (_ : Unit) c => ⟨[(0, .sl 37 (Pv ps)), (3, .row 3000 1 c 0 (outs ps).length), (5, .v (.int .i64 (j : Nat)))], [(3000, .rows c 1 (B (outs ps)))], c + 1⟩) () _ (Weak.re (by simp)) trivial ?_ ?_
    · intro cut _ c hcut _
      have hw0 : IntKind.i64.wrap ((cut : Int) + 1) = ((cut + 1 : Nat) : Int) := w64_succ (by omega)
      have ho := outs_le ps
      have k3 : cut = 0 ∨ cut = 1 ∨ cut = 2 := by omega
      have hF : ∀ p ∈ ps, p.Fits ∧ p.text.length < 4294967296 := fun p hp => ⟨hf p hp, by have := textSum_mem ps p hp; omega⟩
      have hm : fitsB (outs ps).length 1 ∧ fitsB ((outs ps).length + 1) 1 := ⟨fits (by omega) (by omega), fits (by omega) (by omega)⟩
      have hw1 : IntKind.i64.wrap (((outs ps).length : Nat) + 1) = ((outs ps).length : Nat) + 1 := w64_id (by omega)
      have hge : (0 : Int) ≤ ((outs ps).length : Nat) + 1 := by omega
      have hle1 : (((outs ps).length - 1 : Nat) : Int) ≤ ((outs ps).length : Nat) + 1 := by omega
      have hwl : IntKind.i64.wrap 1 = 1 ∧ IntKind.i64.wrap 2 = 2 ∧ IntKind.i64.wrap 3 = 3 := by decide
      rcases k3 with rfl | rfl | rfl
      · have hfin : backs ps (Rd.of (outs ps ++ [120])) = ⟨outs ps, [120], false⟩ := by have := backs_all ps hF [] [120]; rwa [List.nil_append] at this
        have htk : List.take ((outs ps).length + 1) (outs ps ++ [120]) = outs ps ++ [120] := List.take_of_length_le (by simp)
        simp [hm, hw1, hge, bv_lit 120 (by decide), B_snoc, show u8 120 = 120 by decide]
        refine call_intro (read_meets (outs ps ++ [120]) (fits (by first | omega | (simp; omega)) (by first | omega | (simp; omega)))) ?_ ?_
        · simp [htk]
        simp [htk]
        refine go_up ps.length (fun _ _ => True) (fun j (_ : Unit) c => ⟨[(0, .sl 37 (Pv ps)), (3, .row 3000 1 c 0 (outs ps).length), (5, .v (.int .i64 0)), (7, .ptr 1000 c 0), (45, .sl 37 (Pv ps)), (46, .v (.int .i64 (ps.length : Nat))), (47, .v (.int .i64 (j : Nat)))],
          [(3000, .rows c 1 (B (outs ps))), (1000, .var c (.node [.row 2000 1 c (backs (ps.take j) (Rd.of (outs ps ++ [120]))).pre.length (backs (ps.take j) (Rd.of (outs ps ++ [120]))).s.length, .v (.bool (backs (ps.take j) (Rd.of (outs ps ++ [120]))).bad)])), (2000, .rows c 1 (B ((backs (ps.take j) (Rd.of (outs ps ++ [120]))).pre ++ (backs (ps.take j) (Rd.of (outs ps ++ [120]))).s)))], c + 1⟩) () _ (Weak.re (by simp [backs, Rd.of, htk])) trivial ?_ ?_
        · intro j _ c hj _
          have hw : IntKind.i64.wrap ((j : Int) + 1) = ((j + 1 : Nat) : Int) := w64_succ (by omega)
          have hcs := backs_snoc ps j hj (Rd.of (outs ps ++ [120]))
          have hsame : ps[j].same (backs (ps.take j) (Rd.of (outs ps ++ [120]))) = true := backs_same ps hF [120] j hj
          generalize backs (ps.take j) (Rd.of (outs ps ++ [120])) = r at *
          obtain ⟨p, hp⟩ : ∃ p, ps[j] = p := ⟨_, rfl⟩
          rw [hp] at hcs hsame
          by_cases h1 : p.kind = 1
          · have hb : p.back r = r.text' p.text.length := by simp [Part.back, h1]
            simp [hj, hp, Part.av, h1]
            refine call_intro (text_meets r p.text.length) ?_ ?_
            · simp [rdM]
            simp only [Part.same, h1, if_true, beq_iff_eq] at hsame
            simp [rdM, hsame, hw]
            exact ⟨(), _, Weak.re (by simp [hcs, hb]), trivial⟩
          · by_cases h2 : p.kind = 2
            · have hb : p.back r = r.dg' := by simp [Part.back, h2]
              simp [hj, hp, Part.av, h2]
              refine call_intro (digest_meets r) ?_ ?_
              · simp [rdM]
              simp [Part.same, h2] at hsame
              simp [rdM, hsame, hw]
              exact ⟨(), _, Weak.re (by simp [hcs, hb]), trivial⟩
            · have hb : p.back r = r.inn' p.num p.num := by simp [Part.back, h1, h2]
              simp [hj, hp, Part.av, h1, h2]
              refine call_intro (in_meets r p.num p.num) ?_ ?_
              · simp [rdM]
              simp [Part.same, h1, h2] at hsame
              simp [rdM, hsame, hw]
              exact ⟨(), _, Weak.re (by simp [hcs, hb]), trivial⟩
        · intro _ c _
          simp
          refine call_intro (good_meets (backs ps (Rd.of (outs ps ++ [120])))) ?_ ?_
          · simp [rdM]
          simp [rdM, hfin]
          refine call_intro (end_meets (backs ps (Rd.of (outs ps ++ [120])))) ?_ ?_
          · simp [rdM, hfin]
          simp [rdM, hfin, Rd.done, hwl]
          exact ⟨(), _, Weak.re (by simp), trivial⟩
      · have hfin : backs ps (Rd.of (outs ps)) = ⟨outs ps, [], false⟩ := by have := backs_all ps hF [] []; rwa [List.nil_append, List.append_nil] at this
        have hle2 : (((outs ps).length : Nat) : Int) ≤ ((outs ps).length : Nat) + 1 := by omega
        have htk : List.take ((outs ps).length) (outs ps ++ [120]) = outs ps := by simp
        have hw2 : IntKind.i64.wrap (((outs ps).length : Nat) : Int) = ((outs ps).length : Nat) := w64_id (by omega)
        simp [hm, hw1, hw2, hle2, hge, bv_lit 120 (by decide), B_snoc, show u8 120 = 120 by decide]
        refine call_intro (read_meets (outs ps) (fits (by first | omega | (simp; omega)) (by first | omega | (simp; omega)))) ?_ ?_
        · simp [htk]
        simp [htk]
        refine go_up ps.length (fun _ _ => True) (fun j (_ : Unit) c => ⟨[(0, .sl 37 (Pv ps)), (3, .row 3000 1 c 0 (outs ps).length), (5, .v (.int .i64 1)), (7, .ptr 1000 c 0), (45, .sl 37 (Pv ps)), (46, .v (.int .i64 (ps.length : Nat))), (47, .v (.int .i64 (j : Nat)))],
          [(3000, .rows c 1 (B (outs ps))), (1000, .var c (.node [.row 2000 1 c (backs (ps.take j) (Rd.of (outs ps))).pre.length (backs (ps.take j) (Rd.of (outs ps))).s.length, .v (.bool (backs (ps.take j) (Rd.of (outs ps))).bad)])), (2000, .rows c 1 (B ((backs (ps.take j) (Rd.of (outs ps))).pre ++ (backs (ps.take j) (Rd.of (outs ps))).s)))], c + 1⟩) () _ (Weak.re (by simp [backs, Rd.of, htk])) trivial ?_ ?_
        · intro j _ c hj _
          have hw : IntKind.i64.wrap ((j : Int) + 1) = ((j + 1 : Nat) : Int) := w64_succ (by omega)
          have hcs := backs_snoc ps j hj (Rd.of (outs ps))
          have hsame : ps[j].same (backs (ps.take j) (Rd.of (outs ps))) = true := by have := backs_same ps hF [] j hj; rwa [List.append_nil] at this
          generalize backs (ps.take j) (Rd.of (outs ps)) = r at *
          obtain ⟨p, hp⟩ : ∃ p, ps[j] = p := ⟨_, rfl⟩
          rw [hp] at hcs hsame
          by_cases h1 : p.kind = 1
          · have hb : p.back r = r.text' p.text.length := by simp [Part.back, h1]
            simp [hj, hp, Part.av, h1]
            refine call_intro (text_meets r p.text.length) ?_ ?_
            · simp [rdM]
            simp only [Part.same, h1, if_true, beq_iff_eq] at hsame
            simp [rdM, hsame, hw]
            exact ⟨(), _, Weak.re (by simp [hcs, hb]), trivial⟩
          · by_cases h2 : p.kind = 2
            · have hb : p.back r = r.dg' := by simp [Part.back, h2]
              simp [hj, hp, Part.av, h2]
              refine call_intro (digest_meets r) ?_ ?_
              · simp [rdM]
              simp [Part.same, h2] at hsame
              simp [rdM, hsame, hw]
              exact ⟨(), _, Weak.re (by simp [hcs, hb]), trivial⟩
            · have hb : p.back r = r.inn' p.num p.num := by simp [Part.back, h1, h2]
              simp [hj, hp, Part.av, h1, h2]
              refine call_intro (in_meets r p.num p.num) ?_ ?_
              · simp [rdM]
              simp [Part.same, h1, h2] at hsame
              simp [rdM, hsame, hw]
              exact ⟨(), _, Weak.re (by simp [hcs, hb]), trivial⟩
        · intro _ c _
          simp
          refine call_intro (good_meets (backs ps (Rd.of (outs ps)))) ?_ ?_
          · simp [rdM]
          simp [rdM, hfin]
          refine call_intro (end_meets (backs ps (Rd.of (outs ps)))) ?_ ?_
          · simp [rdM, hfin]
          simp [rdM, hfin, Rd.done, hwl]
          exact ⟨(), _, Weak.re (by simp), trivial⟩
      · by_cases h0 : outs ps = []
        · simp [h0]
          refine post_end (.inr rfl) ?_
          simp
        · have h0l : 0 < (outs ps).length := List.length_pos_iff.2 h0
          have hfin : (backs ps (Rd.of ((outs ps).take ((outs ps).length - 1)))).bad = true := backs_few ps hF [] _ ((outs ps).drop ((outs ps).length - 1)) (by intro e; have := congrArg List.length e; simp at this; omega) (List.take_append_drop _ _)
          have h0n : ¬ (outs ps).length = 0 := by omega
          have htk : List.take ((outs ps).length - 1) (outs ps ++ [120]) = (outs ps).take ((outs ps).length - 1) := List.take_append_of_le_length (by omega)
          have hw2 : IntKind.i64.wrap (((outs ps).length : Nat) + 1 - 2) = (((outs ps).length - 1 : Nat) : Int) := by rw [w64_id (by omega)]; omega
          have hle : (outs ps).length - 1 ≤ (outs ps).length + 1 := by omega
          simp [hm, hw1, hw2, hle, hle1, h0, bv_lit 120 (by decide), B_snoc, show u8 120 = 120 by decide]
          refine call_intro (read_meets ((outs ps).take ((outs ps).length - 1)) (fits (by first | omega | (simp; omega)) (by first | omega | (simp; omega)))) ?_ ?_
          · simp [htk]
            omega
          simp [htk]
          refine go_up ps.length (fun _ _ => True) (fun j (_ : Unit) c => ⟨[(0, .sl 37 (Pv ps)), (3, .row 3000 1 c 0 (outs ps).length), (5, .v (.int .i64 2)), (7, .ptr 1000 c 0), (45, .sl 37 (Pv ps)), (46, .v (.int .i64 (ps.length : Nat))), (47, .v (.int .i64 (j : Nat)))],
            [(3000, .rows c 1 (B (outs ps))), (1000, .var c (.node [.row 2000 1 c (backs (ps.take j) (Rd.of ((outs ps).take ((outs ps).length - 1)))).pre.length (backs (ps.take j) (Rd.of ((outs ps).take ((outs ps).length - 1)))).s.length, .v (.bool (backs (ps.take j) (Rd.of ((outs ps).take ((outs ps).length - 1)))).bad)])), (2000, .rows c 1 (B ((backs (ps.take j) (Rd.of ((outs ps).take ((outs ps).length - 1)))).pre ++ (backs (ps.take j) (Rd.of ((outs ps).take ((outs ps).length - 1)))).s)))], c + 1⟩) () _ (Weak.re (by simp [backs, Rd.of, htk])) trivial ?_ ?_
          · intro j _ c hj _
            have hw : IntKind.i64.wrap ((j : Int) + 1) = ((j + 1 : Nat) : Int) := w64_succ (by omega)
            have hcs := backs_snoc ps j hj (Rd.of ((outs ps).take ((outs ps).length - 1)))
            generalize backs (ps.take j) (Rd.of ((outs ps).take ((outs ps).length - 1))) = r at *
            obtain ⟨p, hp⟩ : ∃ p, ps[j] = p := ⟨_, rfl⟩
            rw [hp] at hcs
            by_cases h1 : p.kind = 1
            · have hb : p.back r = r.text' p.text.length := by simp [Part.back, h1]
              simp [hj, hp, Part.av, h1]
              refine call_intro (text_meets r p.text.length) ?_ ?_
              · simp [rdM]
              cases hk : (r.text p.text.length == p.text) <;> simp [rdM, hk, hw] <;>
              exact ⟨(), _, Weak.re (by simp [hcs, hb]), trivial⟩
            · by_cases h2 : p.kind = 2
              · have hb : p.back r = r.dg' := by simp [Part.back, h2]
                simp [hj, hp, Part.av, h2]
                refine call_intro (digest_meets r) ?_ ?_
                · simp [rdM]
                cases hk : (decide (r.dg = p.dg)) <;> simp [rdM, hk, hw] <;>
                exact ⟨(), _, Weak.re (by simp [hcs, hb]), trivial⟩
              · have hb : p.back r = r.inn' p.num p.num := by simp [Part.back, h1, h2]
                simp [hj, hp, Part.av, h1, h2]
                refine call_intro (in_meets r p.num p.num) ?_ ?_
                · simp [rdM]
                cases hk : (decide (r.inn p.num p.num = p.num)) <;> simp [rdM, hk, hw] <;>
                exact ⟨(), _, Weak.re (by simp [hcs, hb]), trivial⟩
          · intro _ c _
            simp
            refine call_intro (good_meets (backs ps (Rd.of ((outs ps).take ((outs ps).length - 1))))) ?_ ?_
            · simp [rdM]
            simp [rdM, hfin]
            refine call_intro (end_meets (backs ps (Rd.of ((outs ps).take ((outs ps).length - 1))))) ?_ ?_
            · simp [rdM, hfin]
            simp [rdM, hfin, Rd.done, hwl]
            exact ⟨(), _, Weak.re (by simp), trivial⟩
    · intro _ c _
      simp
      refine post_end (.inr rfl) ?_
      simp
  · simp
    refine post_end (.inr rfl) ?_
    simp
end Go.Proofs.Ytngemgmnpcaamaa.WL
