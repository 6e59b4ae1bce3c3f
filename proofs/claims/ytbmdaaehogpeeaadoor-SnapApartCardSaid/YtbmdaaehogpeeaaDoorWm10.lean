/- Texts put together: S18a, S18b, S18c, S18d, S18e. -/
import Derived.Test.YtbmdaaehogpeeaaDoorWm9
section
/-
  CHAPTER 11: chunk.Bytes and the reference's.
-/
namespace Go.Proofs.YtbmdaaehogpeeaaDoor.WL
open Go
set_option maxHeartbeats 8000000
variable {G : Nat → Option AV}

theorem txts_2 (a b : Bytes) : txts [a, b] = txt a ++ txt b := by simp [txts]
theorem Strs_2 (a b : Bytes) : [AV.v (.string (mkS a)), .v (.string (mkS b))] = Strs [a, b] := rfl
structure Sta.Sm (s : Sta) : Prop where
  ms : s.conf.ms.length ≤ 1000
  ps : s.pairs.length ≤ 1000000
  rs : s.reps.length ≤ 1000000
  vs : ∀ a ∈ s.reps, a.vals.length ≤ 1000000
  len : s.bytes.length ≤ 30000000
theorem prsB_len_take (ps : List Pr) (j : Nat) : (prsB (ps.take j)).length ≤ (prsB ps).length := by
  have h : prsB (ps.take j ++ ps.drop j) = prsB (ps.take j) ++ prsB (ps.drop j) := by unfold prsB; rw [List.flatMap_append]
  rw [List.take_append_drop] at h
  rw [h, List.length_append]
  omega
theorem rpsB_len_take (ps : List Rep) (j : Nat) : (rpsB (ps.take j)).length ≤ (rpsB ps).length := by
  have h : rpsB (ps.take j ++ ps.drop j) = rpsB (ps.take j) ++ rpsB (ps.drop j) := by unfold rpsB; rw [List.flatMap_append]
  rw [List.take_append_drop] at h
  rw [h, List.length_append]
  omega
theorem Sta.bytes_len (s : Sta) : s.bytes.length = s.conf.bytes.length + 8 + (prsB s.pairs).length + 8 + (rpsB s.reps).length := by
  simp [Sta.bytes]
  omega
theorem cbytes11_meets (s : Sta) (h : s.Sm) : Meets Tryd.prog G fn_chunk_Bytes [s.av] [] true (.row 3000 1 1 0 s.bytes.length) [(3000, .rows 1 1 (B s.bytes))] := by
  refine meets_of_go mix k_chunk_Bytes ⟨by simp, by simp, by simp⟩ ?_
  obtain ⟨h1, h2, h3, h4, h5⟩ := h
  have hl := s.bytes_len
  have hbt : s.bytes = (s.conf.bytes ++ be8 (s.pairs.length : Int) ++ prsB s.pairs ++ be8 (s.reps.length : Int)) ++ rpsB s.reps := rfl
  obtain ⟨C, hC⟩ : ∃ C, s.conf = C := ⟨_, rfl⟩
  obtain ⟨ps, hps⟩ : ∃ ps, s.pairs = ps := ⟨_, rfl⟩
  obtain ⟨rs, hrs⟩ : ∃ rs, s.reps = rs := ⟨_, rfl⟩
  have hav : s.av = .node [.sl 2 (Prs ps), .sl 4 (Rps rs), C.av] := by rw [← hC, ← hps, ← hrs]; rfl
  have hx1 : (C.bytes ++ nums [(ps.length : Int)]).length = C.bytes.length + 8 := by simp [nums_length]
  have hn1 : be8 (ps.length : Int) = nums [(ps.length : Int)] := by simp [nums]
  have hn2 : be8 (rs.length : Int) = nums [(rs.length : Int)] := by simp [nums]
  simp only [hC, hps, hrs] at h1 h2 h3 h4 hl hbt
  rw [hn1, hn2] at hbt
  rw [hav, hbt]
  rw [hl] at h5
  have hxb : (C.bytes ++ nums [(ps.length : Int)] ++ prsB ps ++ nums [(rs.length : Int)]).length = C.bytes.length + 8 + (prsB ps).length + 8 := by simp [nums_length]; omega
  have m1 := cwrite_meets (G := G) [] C (by simp) h1
  have m2 := wnum_meets (G := G) C.bytes [(ps.length : Int)] (by simp; omega)
  rw [List.nil_append] at m1
  have htl := prsB_len_take ps
  have htr := rpsB_len_take rs
  obtain ⟨X, hX⟩ : ∃ X, C.bytes ++ nums [(ps.length : Int)] = X := ⟨_, rfl⟩
  rw [hX] at m2 hx1 hxb ⊢
  obtain ⟨F, hF⟩ : ∃ F : Nat → Bytes, ∀ i, F i = X ++ prsB (ps.take i) := ⟨_, fun _ => rfl⟩
  have hF0 : X = F 0 := by rw [hF]; simp [prsB]
  have hFN : X ++ prsB ps = F ps.length := by rw [hF, List.take_length]
  have hFl : ∀ i, (F i).length ≤ X.length + (prsB ps).length := by intro i; rw [hF, List.length_append]; have := htl i; omega
  have m3 := wnum_meets (G := G) (F ps.length) [(rs.length : Int)] (by have := hFl ps.length; simp; omega)
  rw [hFN] at hxb ⊢
  obtain ⟨Y, hY⟩ : ∃ Y, F ps.length ++ nums [(rs.length : Int)] = Y := ⟨_, rfl⟩
  rw [hY] at m3 hxb ⊢
  obtain ⟨R, hR⟩ : ∃ R : Nat → Bytes, ∀ i, R i = Y ++ rpsB (rs.take i) := ⟨_, fun _ => rfl⟩
  have hR0 : Y = R 0 := by rw [hR]; simp [rpsB]
  have hRN : Y ++ rpsB rs = R rs.length := by rw [hR, List.take_length]
  have hRl : ∀ i, (R i).length ≤ Y.length + (rpsB rs).length := by intro i; rw [hR, List.length_append]; have := htr i; omega
  have hRlN := hRl rs.length
  rw [hRN]
  have m5 := bytes_meets (G := G) (R rs.length) (by omega)
  have e1 : [AV.v (.int .i64 (ps.length : Int))] = I64 [(ps.length : Int)] := rfl
  have e2 : [AV.v (.int .i64 (rs.length : Int))] = I64 [(rs.length : Int)] := rfl
  have hXl : X.length = (F 0).length := by rw [← hF0]
  have hYl : Y.length = (R 0).length := by rw [← hR0]
  rw [hF0] at m2 hx1
  rw [hR0] at m3
  clear hX hY
  simp
  refine call_intro m1 ?_ ?_
  · simp [wrM]
  simp [wrM]
  refine call_intro m2 ?_ ?_
  · simp [wrM, e1]
  simp [wrM]
  refine go_up ps.length (fun j (_ : Unit) => True) (fun j _ c => ⟨[(1, .ptr 1 c 0), (3, .ptr 3 c 0), (21, .sl 2 (Prs ps)), (22, .v (.int .i64 (ps.length : Nat))), (23, .v (.int .i64 (j : Nat)))],
    [(1, .var c (.node [.sl 2 (Prs ps), .sl 4 (Rps rs), C.av])), (3, .var c (.node [.row 2000 1 c 0 (F j).length])), (2000, .rows c 1 (B (F j)))], c + 1⟩) () _ (Weak.re (by simp)) trivial ?_ ?_
  · intro j _ c hj _
    have hw : IntKind.i64.wrap ((j : Int) + 1) = ((j + 1 : Nat) : Int) := w64_succ (by omega)
    have hlj := hFl (j + 1)
    have hFs : F j ++ txts [ps[j].key, ps[j].val] = F (j + 1) := by rw [hF, hF, prsB_take ps hj, List.append_assoc, txts_2]
    have hll : (F j).length + (txts [ps[j].key, ps[j].val]).length = (F (j + 1)).length := by rw [← hFs, List.length_append]
    have m4 := wtext_meets (G := G) (F j) [ps[j].key, ps[j].val] (by omega) (by simp)
    rw [hFs] at m4
    simp [hj, prA]
    refine call_intro m4 ?_ ?_
    · simp [wrM, Strs_2]
    simp [wrM]
    simp [hw]
    exact ⟨(), _, Weak.re (by simp), trivial⟩
  · intro _ c _
    simp
    refine call_intro m3 ?_ ?_
    · simp [wrM, e2]
    simp [wrM]
    refine go_up rs.length (fun j (_ : Unit) => True) (fun j _ c => ⟨[(3, .ptr 3 c 0), (42, .sl 4 (Rps rs)), (43, .v (.int .i64 (rs.length : Nat))), (44, .v (.int .i64 (j : Nat)))],
      [(3, .var c (.node [.row 2000 1 c 0 (R j).length])), (2000, .rows c 1 (B (R j)))], c + 1⟩) () _ (Weak.re (by simp)) trivial ?_ ?_
    · intro j _ c hj _
      have hw : IntKind.i64.wrap ((j : Int) + 1) = ((j + 1 : Nat) : Int) := w64_succ (by omega)
      have hlj := hRl (j + 1)
      have hRs : R j ++ rs[j].bytes = R (j + 1) := by rw [hR, hR, rpsB_take rs hj, List.append_assoc]
      have hll : (R j).length + rs[j].bytes.length = (R (j + 1)).length := by rw [← hRs, List.length_append]
      have m4 := qwrep_meets (G := G) (R j) rs[j] (by omega) (h4 _ (List.getElem_mem hj))
      rw [hRs] at m4
      simp [hj]
      refine call_intro m4 ?_ ?_
      · simp [wrM]
      simp [wrM]
      simp [hw]
      exact ⟨(), _, Weak.re (by simp), trivial⟩
    · intro _ c _
      simp
      refine call_intro m5 ?_ ?_
      · simp [wrM]
      simp [wrM]
      refine post_end (.inr rfl) ?_
      simp
end Go.Proofs.YtbmdaaehogpeeaaDoor.WL

end
section
/-
  CHAPTERS 10, 11: the reference's bytes of a state; do they rise?
-/
namespace Go.Proofs.YtbmdaaehogpeeaaDoor.WL
open Go
set_option maxHeartbeats 8000000
variable {G : Nat → Option AV}

theorem txt_le (s : Bytes) : (txt s).length = s.length + 4 := by simp [txt]; omega
theorem rbytes11_meets (s : Sta) (h : s.Sm) (hk : ∀ p ∈ s.pairs, p.key.length < 4294967296 ∧ p.val.length < 4294967296) : Meets Tryd.prog G fn_r11_Bytes [s.av] [] true (.v (.string (mkS s.bytes))) [] := by
  refine meets_of_go mix k_r11_Bytes ⟨by simp, by simp, by simp⟩ ?_
  obtain ⟨h1, h2, h3, h4, h5⟩ := h
  have hl := s.bytes_len
  have hbt : s.bytes = (s.conf.bytes ++ be8 (s.pairs.length : Int) ++ prsB s.pairs ++ be8 (s.reps.length : Int)) ++ rpsB s.reps := rfl
  obtain ⟨C, hC⟩ : ∃ C, s.conf = C := ⟨_, rfl⟩
  obtain ⟨ps, hps⟩ : ∃ ps, s.pairs = ps := ⟨_, rfl⟩
  obtain ⟨rs, hrs⟩ : ∃ rs, s.reps = rs := ⟨_, rfl⟩
  have hav : s.av = .node [.sl 2 (Prs ps), .sl 4 (Rps rs), C.av] := by rw [← hC, ← hps, ← hrs]; rfl
  simp only [hC, hps, hrs] at h1 h2 h3 h4 hl hbt hk
  rw [hav, hbt]
  rw [hl] at h5
  have m1 := rcbytes_meets (G := G) C (by omega)
  have m2 := rfnum_meets (G := G) (ps.length : Int)
  have m3 := rfnum_meets (G := G) (rs.length : Int)
  have l1 : (be8 (ps.length : Int)).length = 8 := by simp
  have l2 : (be8 (rs.length : Int)).length = 8 := by simp
  have hxl : (C.bytes ++ be8 (ps.length : Int)).length = C.bytes.length + 8 := by simp
  have htl := prsB_len_take ps
  have htr := rpsB_len_take rs
  generalize be8 (ps.length : Int) = y1 at *
  generalize be8 (rs.length : Int) = y2 at *
  obtain ⟨X, hX⟩ : ∃ X, C.bytes ++ y1 = X := ⟨_, rfl⟩
  rw [hX] at hxl ⊢
  generalize C.bytes = cb at *
  have f0 : fitsS (cb.length + 8) := fitS (by omega)
  obtain ⟨Z, hZ⟩ : ∃ Z, X ++ prsB ps ++ y2 ++ rpsB rs = Z := ⟨_, rfl⟩
  rw [hZ]
  have f3 : ∀ n : Nat, n ≤ 40000000 → fitsS n := fun n hn => fitS (by omega)
  simp
  refine call_intro m1 ?_ ?_
  · simp
  simp
  refine call_intro m2 ?_ ?_
  · simp
  simp [l1, f0, hX]
  refine go_up ps.length (fun j (z : Bytes) => z = X ++ prsB (ps.take j)) (fun j z c => ⟨[(1, .ptr 1 c 0), (3, .v (.string (mkS z))), (17, .sl 2 (Prs ps)), (18, .v (.int .i64 (ps.length : Nat))), (19, .v (.int .i64 (j : Nat)))],
    [(1, .var c (.node [.sl 2 (Prs ps), .sl 4 (Rps rs), C.av]))], c + 1⟩) X _ (Weak.re (by simp)) (by simp [prsB]) ?_ ?_
  · intro j z c hj hz
    have hw : IntKind.i64.wrap ((j : Int) + 1) = ((j + 1 : Nat) : Int) := w64_succ (by omega)
    have hk1 := hk _ (List.getElem_mem hj)
    have hzs : z ++ (txt ps[j].key ++ txt ps[j].val) = X ++ prsB (ps.take (j + 1)) := by rw [hz, prsB_take ps hj, List.append_assoc]
    have hzl : (z ++ (txt ps[j].key ++ txt ps[j].val)).length ≤ X.length + (prsB ps).length := by
      rw [hzs, List.length_append]
      have := htl (j + 1)
      omega
    have ht1 := txt_le ps[j].key
    have ht2 := txt_le ps[j].val
    have m4 := rftext_meets (G := G) ps[j].key hk1.1
    have m5 := rftext_meets (G := G) ps[j].val hk1.2
    simp only [List.length_append] at hzl
    have f1 : fitsS (z.length + (txt ps[j].key).length) := f3 _ (by omega)
    have f2 : fitsS (z.length + (txt ps[j].key).length + (txt ps[j].val).length) := f3 _ (by omega)
    generalize txt ps[j].key = u1 at *
    generalize txt ps[j].val = u2 at *
    simp [hj, prA]
    refine call_intro m4 ?_ ?_
    · simp
    simp [f1]
    refine call_intro m5 ?_ ?_
    · simp
    simp [f1, f2, hw]
    exact ⟨z ++ (u1 ++ u2), _, Weak.re (by simp), hzs⟩
  · intro z c hz
    rw [List.take_length] at hz
    have hzl : z.length = X.length + (prsB ps).length := by rw [hz, List.length_append]
    have hY : z ++ y2 = X ++ prsB ps ++ y2 := by rw [hz]
    obtain ⟨Y, hYe⟩ : ∃ Y, X ++ prsB ps ++ y2 = Y := ⟨_, rfl⟩
    rw [hYe] at hY hZ
    have hYl : Y.length = z.length + 8 := by rw [← hY, List.length_append, l2]
    have f1 : fitsS (z.length + 8) := f3 _ (by omega)
    simp
    refine call_intro m3 ?_ ?_
    · simp
    simp [l2, f1, hY]
    refine go_up rs.length (fun j (z : Bytes) => z = Y ++ rpsB (rs.take j)) (fun j z c => ⟨[(3, .v (.string (mkS z))), (40, .sl 4 (Rps rs)), (41, .v (.int .i64 (rs.length : Nat))), (42, .v (.int .i64 (j : Nat)))],
      [], c + 1⟩) Y _ (Weak.re (by simp)) (by simp [rpsB]) ?_ ?_
    · intro j z c hj hz
      have hw : IntKind.i64.wrap ((j : Int) + 1) = ((j + 1 : Nat) : Int) := w64_succ (by omega)
      have hzs : z ++ rs[j].bytes = Y ++ rpsB (rs.take (j + 1)) := by rw [hz, rpsB_take rs hj, List.append_assoc]
      have hzl : (z ++ rs[j].bytes).length ≤ Y.length + (rpsB rs).length := by
        rw [hzs, List.length_append]
        have := htr (j + 1)
        omega
      rw [List.length_append] at hzl
      have m4 := rqbytes_meets (G := G) rs[j] (by omega) (h4 _ (List.getElem_mem hj))
      have f1 : fitsS (z.length + rs[j].bytes.length) := f3 _ (by omega)
      simp [hj]
      refine call_intro m4 ?_ ?_
      · simp
      simp [f1, hw]
      exact ⟨z ++ rs[j].bytes, _, Weak.re (by simp), hzs⟩
    · intro z c hz
      rw [List.take_length, hZ] at hz
      subst hz
      simp
      refine post_end (.inr rfl) ?_
      simp
@[simp] theorem step_sgeq {m : Nat → Option Loc} {g d : Nat} (a b : Bytes) : step (.bin .geq) [.v (.string (mkS a)), .v (.string (mkS b))] m g d = some (.v (.bool !ltB a b), []) := (rfl)
theorem rises_meets (s : Sta) (h1 : s.pairs.length ≤ 1000000) (h2 : s.reps.length ≤ 1000000) : Meets Tryd.prog G fn_r10_Rises [s.av] [] true (.v (.bool s.rises)) [] := by
  refine meets_of_go mix k_r10_Rises ⟨by simp, by simp, by simp⟩ ?_
  have hr := s.rises_iff
  obtain ⟨ps, hps⟩ : ∃ ps, s.pairs = ps := ⟨_, rfl⟩
  obtain ⟨rs, hrs⟩ : ∃ rs, s.reps = rs := ⟨_, rfl⟩
  have hav : s.av = .node [.sl 2 (Prs ps), .sl 4 (Rps rs), s.conf.av] := by rw [← hps, ← hrs]; rfl
  rw [hav]
  simp only [hps, hrs] at h1 h2 hr
  generalize s.rises = R at *
  generalize s.conf = C at *
  simp
  refine go_up ps.length (fun j (_ : Unit) => ∀ i (h : i < ps.length), 0 < i → i < j → ltB (ps[i - 1]).key (ps[i]).key = true) (fun j _ c => ⟨[(1, .ptr 1 c 0), (7, .v (.int .i64 (ps.length : Nat))), (8, .v (.int .i64 (j : Nat)))],
    [(1, .var c (.node [.sl 2 (Prs ps), .sl 4 (Rps rs), C.av]))], c + 1⟩) () _ (Weak.re (by simp)) (by intro i _ _ h; omega) ?_ ?_
  · intro j _ c hj hx
    have hw : IntKind.i64.wrap ((j : Int) + 1) = ((j + 1 : Nat) : Int) := w64_succ (by omega)
    rcases Nat.eq_zero_or_pos j with rfl | hp
    · have hw0 : IntKind.i64.wrap 1 = 1 := w64_id (by omega)
      simp [hj, hw0]
      exact ⟨(), _, Weak.re (by simp), by intro i _ h h'; omega⟩
    · have hw1 : IntKind.i64.wrap ((j : Int) - 1) = ((j - 1 : Nat) : Int) := by rw [w64_id (by omega)]; omega
      have hj1 : j - 1 < ps.length := by omega
      have hp' : (0 : Int) < j := by omega
      cases hq : ltB (ps[j - 1]).key (ps[j]).key with
      | true =>
        simp [hj, hw1, hj1, hp', hp, prA, hq, hw]
        refine ⟨(), _, Weak.re (by simp), ?_⟩
        intro i hi h0 hij
        rcases (show i < j ∨ i = j by omega) with h | rfl
        · exact hx i hi h0 h
        · exact hq
      | false =>
        have hR : R = false := by
          cases hR : R with
          | false => rfl
          | true =>
            have := (hr.1 hR).1 j hj hp
            rw [hq] at this
            cases this
        simp [hj, hw1, hj1, hp', hp, prA, hq]
        refine post_end (.inr rfl) ?_
        simp [hR]
  · intro _ c hx
    simp
    refine go_up rs.length (fun j (_ : Unit) => ∀ i (h : i < rs.length), 0 < i → i < j → (rs[i - 1]).client < (rs[i]).client) (fun j _ c => ⟨[(1, .ptr 1 c 0), (32, .v (.int .i64 (rs.length : Nat))), (33, .v (.int .i64 (j : Nat)))],
      [(1, .var c (.node [.sl 2 (Prs ps), .sl 4 (Rps rs), C.av]))], c + 1⟩) () _ (Weak.re (by simp)) (by intro i _ _ h; omega) ?_ ?_
    · intro j _ c hj hy
      have hw : IntKind.i64.wrap ((j : Int) + 1) = ((j + 1 : Nat) : Int) := w64_succ (by omega)
      rcases Nat.eq_zero_or_pos j with rfl | hp
      · have hw0 : IntKind.i64.wrap 1 = 1 := w64_id (by omega)
        simp [hj, hw0]
        exact ⟨(), _, Weak.re (by simp), by intro i _ h h'; omega⟩
      · have hw1 : IntKind.i64.wrap ((j : Int) - 1) = ((j - 1 : Nat) : Int) := by rw [w64_id (by omega)]; omega
        have hj1 : j - 1 < rs.length := by omega
        have hp' : (0 : Int) < j := by omega
        by_cases hq : (rs[j - 1]).client < (rs[j]).client
        · have hq' : ¬ (rs[j]).client ≤ (rs[j - 1]).client := by omega
          simp [hj, hw1, hj1, hp', hp, Rep.avS, hq', hw]
          refine ⟨(), _, Weak.re (by simp), ?_⟩
          intro i hi h0 hij
          rcases (show i < j ∨ i = j by omega) with h | rfl
          · exact hy i hi h0 h
          · exact hq
        · have hR : R = false := by
            cases hR : R with
            | false => rfl
            | true => exact absurd ((hr.1 hR).2 j hj hp) hq
          have hq' : (rs[j]).client ≤ (rs[j - 1]).client := by omega
          simp [hj, hw1, hj1, hp', hp, Rep.avS, hq']
          refine post_end (.inr rfl) ?_
          simp [hR]
    · intro _ c hy
      have hR : R = true := hr.2 ⟨fun i h h0 => hx i h h0 h, fun i h h0 => hy i h h0 h⟩
      simp
      refine post_end (.inr rfl) ?_
      simp [hR]
end Go.Proofs.YtbmdaaehogpeeaaDoor.WL

end
section
/-
  CHAPTER 11: chunk.State, where the document says OK.
-/
namespace Go.Proofs.YtbmdaaehogpeeaaDoor.WL
open Go
set_option maxHeartbeats 8000000
variable {G : Nat → Option AV}

theorem repR_take {α : Type} (K : List α → Fmt α) (r : Rd) : ∀ (n j : Nat), j ≤ n → ((repR K r n).1).take j = (repR K r j).1
  | 0, j, h => by
    obtain rfl : j = 0 := by omega
    rfl
  | n + 1, j, h => by
    rcases Nat.lt_or_ge n j with h1 | h1
    · obtain rfl : j = n + 1 := by omega
      exact List.take_of_length_le (by simp)
    · simp only [repR]
      rw [List.take_append_of_le_length (by simp; omega), repR_take K r n j h1]
theorem repR_get {α : Type} (F : Fmt α) (r : Rd) {n j : Nat} (h : j < n) : ((repR (fun _ => F) r n).1)[j]? = some (F.rd (repR (fun _ => F) r j).2) := by
  have h1 := repR_take (fun _ => F) r n (j + 1) h
  have h2 : ((repR (fun _ => F) r n).1)[j]? = (((repR (fun _ => F) r n).1).take (j + 1))[j]? := by rw [List.getElem?_take]; simp
  rw [h2, h1]
  simp [repR]
theorem count256 (r : Rd) : (0 : Int) ≤ r.inn 0 256 ∧ r.inn 0 256 ≤ 256 := r.inn_range 0 256 (by omega)
theorem count64 (r : Rd) : (0 : Int) ≤ r.inn 0 64 ∧ r.inn 0 64 ≤ 64 := r.inn_range 0 64 (by omega)

theorem w64_one : IntKind.i64.wrap 1 = 1 := w64_id (by omega)
@[simp] theorem prA_key (p : Pr) : sub false 1 (prA p) 0 = some (.v (.string (mkS p.key))) := by simp [prA]
@[simp] theorem avS_client (a : Rep) : sub false 1 a.avS 0 = some (.v (.int .i64 a.client)) := by simp [Rep.avS]
theorem cstate_meets (b : Bytes) (hb : b.length ≤ 50000000) (h : stOk b = true) : Meets Tryd.prog G fn_chunk_State [.sl 1 (B b)] [] false (.tup [(stOf b).av, .v (.int .i64 0)]) [] := by
  have hfb : fitsB b.length 1 := fits (by omega) (by omega)
  refine meets_of_go mix k_chunk_State ⟨by simp, by simp, by simp⟩ ?_
  unfold stOf
  simp only [stOk, Bool.and_eq_true] at h
  obtain ⟨hd, hr⟩ := h
  rw [Sta.rises_iff] at hr
  have m0 := read_meets (G := G) b hfb
  obtain ⟨r, hre⟩ : ∃ r, Rd.of b = r := ⟨_, rfl⟩
  have hr0 : r.pre = [] ∧ r.s = b ∧ r.bad = false := by rw [← hre]; exact ⟨rfl, rfl, rfl⟩
  rw [hre] at hd hr ⊢
  have m1 := cread_meets (G := G) r
  rw [stF_rd] at hr ⊢
  rw [stF_rd'] at hd
  simp only at hr
  have hN := count256 (confF.rd' r)
  have m2 := in_meets (G := G) (confF.rd' r) 0 256
  have m3 := in_meets (G := G) r.st2 0 64
  have hM := count64 r.st2
  have hNe : ((r.stN : Nat) : Int) = (confF.rd' r).inn 0 256 := by unfold Rd.stN; omega
  have hMe : ((r.stM : Nat) : Int) = r.st2.inn 0 64 := by unfold Rd.stM; omega
  rw [← hNe] at m2 hN
  rw [← hMe] at m3 hM
  have hs1 : (confF.rd' r).inn' 0 256 = r.st1 := rfl
  have hs3 : r.st2.inn' 0 64 = r.st3 := rfl
  have hs2 : (repR (fun _ => prF) r.st1 r.stN).2 = r.st2 := rfl
  rw [hs1] at m2
  rw [hs3] at m3
  clear hs1 hs3 hNe hMe
  generalize r.stN = N at *
  generalize r.stM = M at *
  generalize r.st1 = r1 at *
  generalize r.st2 = r2 at *
  generalize r.st3 = r3 at *
  generalize confF.rd r = C at *
  generalize confF.rd' r = rc at *
  obtain ⟨L, hL⟩ : ∃ L : Nat → List Pr, ∀ i, L i = (repR (fun _ => prF) r1 i).1 := ⟨_, fun _ => rfl⟩
  obtain ⟨R, hR⟩ : ∃ R : Nat → Rd, ∀ i, R i = (repR (fun _ => prF) r1 i).2 := ⟨_, fun _ => rfl⟩
  have hL0 : L 0 = [] := by rw [hL]; simp only [repR]
  have hR0 : r1 = R 0 := by rw [hR]; simp only [repR]
  have hRN : R N = r2 := by rw [hR]; exact hs2
  have hLl : ∀ i, (L i).length = i := fun i => by rw [hL]; exact repR_length _ r1 i
  have hLs : ∀ i, L (i + 1) = L i ++ [⟨(R i).text 1024, ((R i).text' 1024).text 1024⟩] := fun i => by rw [hL, hL, hR]; simp only [repR]; rfl
  have hRs : ∀ i, R (i + 1) = ((R i).text' 1024).text' 1024 := fun i => by rw [hR, hR]; simp only [repR]; rfl
  have hLg : ∀ i j, i < j → (L j)[i]? = some ⟨(R i).text 1024, ((R i).text' 1024).text 1024⟩ := fun i j hij => by rw [hL, hR]; exact repR_get prF r1 hij
  obtain ⟨L2, hL2⟩ : ∃ L : Nat → List Rep, ∀ i, L i = (repR (fun _ => replyF) r3 i).1 := ⟨_, fun _ => rfl⟩
  obtain ⟨R2, hR2⟩ : ∃ R : Nat → Rd, ∀ i, R i = (repR (fun _ => replyF) r3 i).2 := ⟨_, fun _ => rfl⟩
  have hL20 : L2 0 = [] := by rw [hL2]; simp only [repR]
  have hR20 : r3 = R2 0 := by rw [hR2]; simp only [repR]
  have hL2l : ∀ i, (L2 i).length = i := fun i => by rw [hL2]; exact repR_length _ r3 i
  have hL2s : ∀ i, L2 (i + 1) = L2 i ++ [(R2 i).rep] := fun i => by rw [hL2, hL2, hR2]; simp only [repR]; rfl
  have hR2s : ∀ i, R2 (i + 1) = (R2 i).rep' := fun i => by rw [hR2, hR2]; simp only [repR]; rfl
  have hL2g : ∀ i j, i < j → (L2 j)[i]? = some (R2 i).rep := fun i j hij => by rw [hL2, hR2]; exact repR_get replyF r3 hij
  rw [← hL, ← hL2] at hr
  rw [← hR2] at hd
  rw [← hL, ← hL2]
  obtain ⟨hr1, hr2⟩ := hr
  have hord : ∀ j, j < N → 0 < j → ∃ p, (L j)[j - 1]? = some p ∧ ltB p.key ((R j).text 1024) = true := by
    intro j hj h0
    have h1 := hr1 j (by rw [hLl]; exact hj) h0
    have g1 := hLg (j - 1) N (by omega)
    have g2 := hLg j N hj
    rw [List.getElem?_eq_getElem (by rw [hLl]; omega)] at g1 g2
    rw [Option.some.inj g1, Option.some.inj g2] at h1
    exact ⟨_, hLg (j - 1) j (by omega), h1⟩
  have hord2 : ∀ j, j < M → 0 < j → ∃ p, (L2 j)[j - 1]? = some p ∧ p.client < (R2 j).rep.client := by
    intro j hj h0
    have h1 := hr2 j (by rw [hL2l]; exact hj) h0
    have g1 := hL2g (j - 1) M (by omega)
    have g2 := hL2g j M hj
    rw [List.getElem?_eq_getElem (by rw [hL2l]; omega)] at g1 g2
    rw [Option.some.inj g1, Option.some.inj g2] at h1
    exact ⟨_, hL2g (j - 1) j (by omega), h1⟩
  clear hr1 hr2 hL hR hL2 hR2 hs2
  obtain ⟨p0, s0, b0⟩ := hr0
  simp
  refine call_intro m0 ?_ ?_
  · simp
  simp
  refine call_intro m1 ?_ ?_
  · simp [rdM, p0, s0, b0]
  simp [rdM, p0, s0, b0]
  refine call_intro m2 ?_ ?_
  · simp [rdM]
  simp [rdM]
  rw [hR0]
  refine go_up N (fun j (_ : Unit) => True) (fun j _ c => ⟨[(2, .ptr 2 c 0), (4, .ptr 1161000 c 0), (5, .ptr 5 c 0), (16, .v (.int .i64 (N : Nat))), (17, .v (.int .i64 (j : Nat)))],
    [(2, .var c Sta.zero.av), (5, .var c (.node [.row 46 2 c 0 j, .v (.slice none 0 0), C.av])), (46, .rows c 2 (Prs (L j))),
     (1161000, .var c (.node [.row 1162000 1 c (R j).pre.length (R j).s.length, .v (.bool (R j).bad)])), (1162000, .rows c 1 (B ((R j).pre ++ (R j).s)))], c + 1⟩) () _ (Weak.re (by simp [hL0, Sta.zero, Sta.av, Conf.zero, Conf.av])) trivial ?_ ?_
  · intro j _ c hj _
    have hw : IntKind.i64.wrap ((j : Int) + 1) = ((j + 1 : Nat) : Int) := w64_succ (by omega)
    have f1 : fitsB (j + 1) 32 := fits (by omega) (by omega)
    have e1 := hLs j
    have e2 := hRs j
    have hlj := hLl j
    have ho := hord j hj
    have hlg := hLg
    generalize R j = q at *
    have m4 := text_meets (G := G) q 1024
    generalize q.text 1024 = k1 at *
    generalize q.text' 1024 = q1 at *
    have m5 := text_meets (G := G) q1 1024
    generalize q1.text 1024 = k2 at *
    generalize q1.text' 1024 = q2 at *
    generalize L j = x at *
    have hS : Prs x ++ [.node [.v (.string (mkS k1)), .v (.string (mkS k2))]] = Prs (x ++ [⟨k1, k2⟩]) := Prs_snoc x ⟨k1, k2⟩
    rcases Nat.eq_zero_or_pos j with h0 | hp
    · have hx0 : x = [] := List.length_eq_zero_iff.1 (by omega)
      subst h0
      simp [hj]
      refine call_intro m4 ?_ ?_
      · simp [rdM]
      simp [rdM]
      refine call_intro m5 ?_ ?_
      · simp [rdM]
      simp [rdM, f1, hlj, hS]
      exact ⟨(), _, Weak.re (by simp [e1, e2, w64_one]), trivial⟩
    · obtain ⟨p, hp1, hp2⟩ := ho hp
      have hw1 : IntKind.i64.wrap ((j : Int) - 1) = ((j - 1 : Nat) : Int) := by rw [w64_id (by omega)]; omega
      have hp' : (0 : Int) < j := by omega
      have hj1 : j - 1 < j := by omega
      simp [hj]
      refine call_intro m4 ?_ ?_
      · simp [rdM]
      simp [rdM]
      obtain ⟨_, hp3⟩ := List.getElem?_eq_some_iff.1 hp1
      refine call_intro m5 ?_ ?_
      · simp [rdM]
      simp [rdM, f1, hlj, hS, hp', hp, hw1, hp1, hp2, hp3, hj1]
      simp [hw]
      exact ⟨(), _, Weak.re (by simp [e1, e2]), trivial⟩
  · intro _ c _
    have hlN := hLl N
    rw [hRN]
    generalize L N = x at *
    simp
    refine call_intro m3 ?_ ?_
    · simp [rdM]
    simp [rdM]
    rw [hR20]
    refine go_up M (fun j (_ : Unit) => True) (fun j _ c => ⟨[(2, .ptr 2 c 0), (4, .ptr 1501000 c 0), (5, .ptr 5 c 0), (50, .v (.int .i64 (M : Nat))), (51, .v (.int .i64 (j : Nat)))],
      [(2, .var c Sta.zero.av), (5, .var c (.node [.row 46 2 c 0 N, .row 77 4 c 0 j, C.av])), (46, .rows c 2 (Prs x)), (77, .rows c 4 (Rps (L2 j))),
       (1501000, .var c (.node [.row 1502000 1 c (R2 j).pre.length (R2 j).s.length, .v (.bool (R2 j).bad)])), (1502000, .rows c 1 (B ((R2 j).pre ++ (R2 j).s)))], c + 1⟩) () _ (Weak.re (by simp [hL20])) trivial ?_ ?_
    · intro j _ c hj _
      have hw : IntKind.i64.wrap ((j : Int) + 1) = ((j + 1 : Nat) : Int) := w64_succ (by omega)
      have f1 : fitsB (j + 1) 48 := fits (by omega) (by omega)
      have e1 := hL2s j
      have e2 := hR2s j
      have hlj := hL2l j
      have ho := hord2 j hj
      generalize R2 j = q at *
      have m4 := qrrep_frz (G := G) q
      generalize q.rep = a at *
      generalize q.rep' = q1 at *
      generalize L2 j = y at *
      have hS := Rps_snoc y a
      rcases Nat.eq_zero_or_pos j with h0 | hp
      · have hx0 : y = [] := List.length_eq_zero_iff.1 (by omega)
        subst h0
        simp [hj]
        refine call_intro m4 ?_ ?_
        · simp [rdM]
        simp [rdM, f1, hlj, hS]
        exact ⟨(), _, Weak.re (by simp [e1, e2, w64_one]), trivial⟩
      · obtain ⟨p, hp1, hp2⟩ := ho hp
        obtain ⟨_, hp3⟩ := List.getElem?_eq_some_iff.1 hp1
        have hw1 : IntKind.i64.wrap ((j : Int) - 1) = ((j - 1 : Nat) : Int) := by rw [w64_id (by omega)]; omega
        have hp' : (0 : Int) < j := by omega
        have hj1 : j - 1 < j := by omega
        have hp4 : ¬ a.client ≤ p.client := by omega
        simp [hj]
        refine call_intro m4 ?_ ?_
        · simp [rdM]
        simp [rdM, f1, hlj, hS, hp', hp, hw1, hp1, hp4, hp3, hj1]
        simp [hw]
        exact ⟨(), _, Weak.re (by simp [e1, e2]), trivial⟩
    · intro _ c _
      have hlM := hL2l M
      generalize L2 M = y at *
      generalize R2 M = q at *
      have m4 := end_meets (G := G) q
      rw [hd] at m4
      have htx : List.take N x = x := List.take_of_length_le (by omega)
      have hty : List.take M y = y := List.take_of_length_le (by omega)
      simp
      refine call_intro m4 ?_ ?_
      · simp [rdM]
      simp [rdM]
      refine post_end (.inr rfl) ?_
      simp [Sta.av, htx, hty, hlN, hlM]
end Go.Proofs.YtbmdaaehogpeeaaDoor.WL

end
section
/-
  CHAPTER 11: the reference's State.
-/
namespace Go.Proofs.YtbmdaaehogpeeaaDoor.WL
open Go
set_option maxHeartbeats 8000000
variable {G : Nat → Option AV}

theorem fault_in (lo hi : Int) : Rd.fault.inn' lo hi = Rd.fault := (inF_law lo hi).fault
theorem fault_done : Rd.fault.done = false := rfl
def stE (b : Bytes) : Int := if stOk b = true then 0 else 4
def stV (b : Bytes) : Sta := if stOk b = true then stOf b else Sta.zero

theorem rstate_meets (b : Bytes) (hb : b.length ≤ 50000000) : Meets Tryd.prog G fn_r11_State [.v (.string (mkS b))] [] false (.tup [(stV b).av, .v (.int .i64 (stE b))]) [] := by
  refine meets_of_go mix k_r11_State ⟨by simp, by simp, by simp⟩ ?_
  have hyes : stOk b = true → stV b = stOf b ∧ stE b = 0 := fun h => ⟨if_pos h, if_pos h⟩
  have hno : stOk b = false → stV b = Sta.zero ∧ stE b = 4 := fun h => ⟨if_neg (by simp [h]), if_neg (by simp [h])⟩
  generalize stV b = V at *
  generalize stE b = E at *
  have hdef : stOk b = ((stF.rd' (Rd.of b)).done && (stF.rd (Rd.of b)).rises) := rfl
  have hof : stOf b = stF.rd (Rd.of b) := rfl
  rw [hdef, hof] at hyes
  rw [hdef] at hno
  clear hdef hof
  have hflt0 := Rd.flt_of b
  obtain ⟨r, hre⟩ : ∃ r, Rd.of b = r := ⟨_, rfl⟩
  have hr0 : r.s = b ∧ r.bad = false := by rw [← hre]; exact ⟨rfl, rfl⟩
  rw [hre] at hyes hno hflt0
  have m1 := rcread_meets (G := G) r
  rw [stF_rd, stF_rd'] at hyes hno
  have hflt1 : r.st1.flt := (inF_law 0 256).flt _ (confF_law.flt r hflt0)
  have hflt3 : r.st2.flt → r.st3.flt := fun h => (inF_law 0 64).flt _ h
  have hN := count256 (confF.rd' r)
  have m2 := rin_meets (G := G) (confF.rd' r) 0 256
  have m3 := rin_meets (G := G) r.st2 0 64
  have hM := count64 r.st2
  have hNe : ((r.stN : Nat) : Int) = (confF.rd' r).inn 0 256 := by unfold Rd.stN; omega
  have hMe : ((r.stM : Nat) : Int) = r.st2.inn 0 64 := by unfold Rd.stM; omega
  have hM0 : r.st2 = Rd.fault → r.stM = 0 := fun h => by unfold Rd.stM; rw [h]; rfl
  have hfM : r.st2 = Rd.fault → r.st3 = Rd.fault := fun h => by unfold Rd.st3; rw [h, fault_in]
  rw [← hNe] at m2 hN
  rw [← hMe] at m3 hM
  have hs1 : (confF.rd' r).inn' 0 256 = r.st1 := rfl
  have hs3 : r.st2.inn' 0 64 = r.st3 := rfl
  have hs2 : (repR (fun _ => prF) r.st1 r.stN).2 = r.st2 := rfl
  rw [hs1] at m2
  rw [hs3] at m3
  clear hs1 hs3 hNe hMe
  generalize r.stN = N at *
  generalize r.stM = M at *
  generalize r.st1 = r1 at *
  generalize r.st2 = r2 at *
  generalize r.st3 = r3 at *
  generalize confF.rd r = C at *
  generalize confF.rd' r = rc at *
  have hst : ∀ j, j ≤ N → (repR (fun _ => prF) r1 j).2.bad = true → (repR (fun _ => prF) r1 j).2 = Rd.fault ∧ r2 = Rd.fault := fun j hj hb =>
    ⟨repR_flt (fun _ => prF_law) r1 hflt1 j hb, by rw [← hs2]; exact repR_stop (fun _ => prF_law) r1 hflt1 j hb N hj⟩
  have hflt2 : r2.flt := by rw [← hs2]; exact repR_flt (fun _ => prF_law) r1 hflt1 N
  have hst2 : ∀ j, j ≤ M → (repR (fun _ => replyF) r3 j).2.bad = true → (repR (fun _ => replyF) r3 j).2 = Rd.fault ∧ (repR (fun _ => replyF) r3 M).2 = Rd.fault := fun j hj hb =>
    ⟨repR_flt (fun _ => replyF_law) r3 (hflt3 hflt2) j hb, repR_stop (fun _ => replyF_law) r3 (hflt3 hflt2) j hb M hj⟩
  have hfR : r2 = Rd.fault → (repR (fun _ => replyF) r3 M).2 = Rd.fault := fun h => by rw [hfM h]; exact repR_fault (fun _ => replyF_law) M
  obtain ⟨L, hL⟩ : ∃ L : Nat → List Pr, ∀ i, L i = (repR (fun _ => prF) r1 i).1 := ⟨_, fun _ => rfl⟩
  obtain ⟨R, hR⟩ : ∃ R : Nat → Rd, ∀ i, R i = (repR (fun _ => prF) r1 i).2 := ⟨_, fun _ => rfl⟩
  have hL0 : L 0 = [] := by rw [hL]; simp only [repR]
  have hR0 : r1 = R 0 := by rw [hR]; simp only [repR]
  have hRN : R N = r2 := by rw [hR]; exact hs2
  have hLl : ∀ i, (L i).length = i := fun i => by rw [hL]; exact repR_length _ r1 i
  have hLs : ∀ i, L (i + 1) = L i ++ [⟨(R i).text 1024, ((R i).text' 1024).text 1024⟩] := fun i => by rw [hL, hL, hR]; simp only [repR]; rfl
  have hRs : ∀ i, R (i + 1) = ((R i).text' 1024).text' 1024 := fun i => by rw [hR, hR]; simp only [repR]; rfl
  simp only [← hR] at hst
  obtain ⟨L2, hL2⟩ : ∃ L : Nat → List Rep, ∀ i, L i = (repR (fun _ => replyF) r3 i).1 := ⟨_, fun _ => rfl⟩
  obtain ⟨R2, hR2⟩ : ∃ R : Nat → Rd, ∀ i, R i = (repR (fun _ => replyF) r3 i).2 := ⟨_, fun _ => rfl⟩
  have hL20 : L2 0 = [] := by rw [hL2]; simp only [repR]
  have hR20 : r3 = R2 0 := by rw [hR2]; simp only [repR]
  have hL2l : ∀ i, (L2 i).length = i := fun i => by rw [hL2]; exact repR_length _ r3 i
  have hL2s : ∀ i, L2 (i + 1) = L2 i ++ [(R2 i).rep] := fun i => by rw [hL2, hL2, hR2]; simp only [repR]; rfl
  have hR2s : ∀ i, R2 (i + 1) = (R2 i).rep' := fun i => by rw [hR2, hR2]; simp only [repR]; rfl
  simp only [← hR2] at hst2 hfR
  rw [← hL, ← hL2, ← hR2] at hyes hno
  clear hL hR hL2 hR2 hs2
  obtain ⟨s0, b0⟩ := hr0
  simp
  refine call_intro m1 ?_ ?_
  · simp [rfM, s0, b0]
  simp [rfM, s0, b0]
  refine call_intro m2 ?_ ?_
  · simp [rfM]
  simp [rfM]
  rw [hR0]
  refine go_up N (fun j (_ : Unit) => True) (fun j _ c => ⟨[(2, .ptr 2 c 0), (4, .ptr 12 c 0), (5, .ptr 5 c 0), (6, .v (.int .i64 (N : Nat))), (7, .v (.int .i64 (j : Nat)))],
    [(2, .var c Sta.zero.av), (5, .var c (.node [.row 36 2 c 0 j, .v (.slice none 0 0), C.av])), (36, .rows c 2 (Prs (L j))),
     (12, .var c (.node [.v (.string (mkS (R j).s)), .v (.bool (R j).bad)]))], c + 1⟩) () _ (Weak.re (by simp [hL0, Sta.zero, Sta.av, Conf.zero, Conf.av])) trivial ?_ ?_
  · intro j _ c hj _
    have hw : IntKind.i64.wrap ((j : Int) + 1) = ((j + 1 : Nat) : Int) := w64_succ (by omega)
    have f1 : fitsB (j + 1) 32 := fits (by omega) (by omega)
    have e1 := hLs j
    have e2 := hRs j
    have hlj := hLl j
    have hsj := hst j (by omega)
    have m8 := rgood_meets (G := G) (R j)
    cases hbad : (R j).bad with
    | false =>
      generalize R j = q at *
      have m4 := rtext_meets (G := G) q 1024
      generalize q.text 1024 = k1 at *
      generalize q.text' 1024 = q1 at *
      have m5 := rtext_meets (G := G) q1 1024
      generalize q1.text 1024 = k2 at *
      generalize q1.text' 1024 = q2 at *
      generalize L j = x at *
      have hS : Prs x ++ [.node [.v (.string (mkS k1)), .v (.string (mkS k2))]] = Prs (x ++ [⟨k1, k2⟩]) := Prs_snoc x ⟨k1, k2⟩
      rw [hbad] at m8
      simp [hj]
      refine call_intro m8 ?_ ?_
      · simp [rfM, hbad]
      simp [rfM, hbad]
      refine call_intro m4 ?_ ?_
      · simp [rfM, hbad]
      simp [rfM]
      refine call_intro m5 ?_ ?_
      · simp [rfM]
      simp [rfM, f1, hlj, hS]
      simp [hw]
      exact ⟨(), _, Weak.re (by simp [e1, e2]), trivial⟩
    | true =>
      obtain ⟨k1, k2⟩ := hsj hbad
      have hf := hfR k2
      have hr3 := hfM k2
      have hne := hno (by rw [hf]; rfl)
      obtain ⟨hV, hE⟩ := hne
      rw [k1] at m8
      rw [k2, hr3] at m3
      have m9 := rend_meets (G := G) Rd.fault
      rw [fault_done] at m9
      have m10 := rgood_meets (G := G) Rd.fault
      generalize L j = x at *
      rw [hV, hE]
      simp [hj, k1, Rd.fault]
      refine call_intro m8 ?_ ?_
      · simp [rfM, Rd.fault]
      simp [rfM, Rd.fault]
      refine call_intro m3 ?_ ?_
      · simp [rfM, Rd.fault]
      simp [rfM, Rd.fault]
      have hMz := hM0 k2
      subst hMz
      refine go_up 0 (fun j (_ : Unit) => True) (fun _ _ c => ⟨[(2, .ptr 2 c 0), (4, .ptr 12 c 0), (5, .ptr 5 c 0), (6, .v (.int .i64 0)), (9, .v (.int .i64 0))],
        [(2, .var c Sta.zero.av), (5, .var c (.node [.row 36 2 c 0 j, .v (.slice none 0 0), C.av])), (36, .rows c 2 (Prs x)),
         (12, .var c (.node [.v (.string (mkS [])), .v (.bool true)]))], c + 1⟩) () _ (Weak.re (by simp)) trivial ?_ ?_
      · intro i _ c hi
        omega
      · intro _ c _
        simp
        refine call_intro m9 ?_ ?_
        · simp [rfM, Rd.fault]
        simp [rfM, Rd.fault]
        refine post_end (.inr rfl) ?_
        simp [Sta.zero, Sta.av, Conf.zero, Conf.av]
  · intro _ c _
    have hlN := hLl N
    rw [hRN]
    generalize L N = x at *
    simp
    refine call_intro m3 ?_ ?_
    · simp [rfM]
    simp [rfM]
    rw [hR20]
    refine go_up M (fun j (_ : Unit) => True) (fun j _ c => ⟨[(2, .ptr 2 c 0), (4, .ptr 12 c 0), (5, .ptr 5 c 0), (6, .v (.int .i64 (M : Nat))), (9, .v (.int .i64 (j : Nat)))],
      [(2, .var c Sta.zero.av), (5, .var c (.node [.row 36 2 c 0 N, .row 54 4 c 0 j, C.av])), (36, .rows c 2 (Prs x)), (54, .rows c 4 (Rps (L2 j))),
       (12, .var c (.node [.v (.string (mkS (R2 j).s)), .v (.bool (R2 j).bad)]))], c + 1⟩) () _ (Weak.re (by simp [hL20])) trivial ?_ ?_
    · intro j _ c hj _
      have hw : IntKind.i64.wrap ((j : Int) + 1) = ((j + 1 : Nat) : Int) := w64_succ (by omega)
      have f1 : fitsB (j + 1) 48 := fits (by omega) (by omega)
      have e1 := hL2s j
      have e2 := hR2s j
      have hlj := hL2l j
      have hsj := hst2 j (by omega)
      have m8 := rgood_meets (G := G) (R2 j)
      cases hbad : (R2 j).bad with
      | false =>
        generalize R2 j = q at *
        have m4 := rqrrep_frz (G := G) q
        generalize q.rep = a at *
        generalize q.rep' = q1 at *
        generalize L2 j = y at *
        have hS := Rps_snoc y a
        rw [hbad] at m8
        simp [hj]
        refine call_intro m8 ?_ ?_
        · simp [rfM, hbad]
        simp [rfM, hbad]
        refine call_intro m4 ?_ ?_
        · simp [rfM, hbad]
        simp [rfM, f1, hlj, hS]
        simp [hw]
        exact ⟨(), _, Weak.re (by simp [e1, e2]), trivial⟩
      | true =>
        obtain ⟨k1, k2⟩ := hsj hbad
        have hne := hno (by rw [k2]; rfl)
        obtain ⟨hV, hE⟩ := hne
        rw [k1] at m8
        have m9 := rend_meets (G := G) Rd.fault
        rw [fault_done] at m9
        generalize L2 j = y at *
        rw [hV, hE]
        simp [hj, k1, Rd.fault]
        refine call_intro m8 ?_ ?_
        · simp [rfM, Rd.fault]
        simp [rfM, Rd.fault]
        refine call_intro m9 ?_ ?_
        · simp [rfM, Rd.fault]
        simp [rfM, Rd.fault]
        refine post_end (.inr rfl) ?_
        simp [Sta.zero, Sta.av, Conf.zero, Conf.av]
    · intro _ c _
      have hlM := hL2l M
      generalize L2 M = y at *
      generalize R2 M = q at *
      have m4 := rend_meets (G := G) q
      have m5 := rises_meets (G := G) ⟨x, y, C⟩ (by simp only; omega) (by simp only; omega)
      have htx : List.take N x = x := List.take_of_length_le (by omega)
      have hty : List.take M y = y := List.take_of_length_le (by omega)
      cases hd : q.done with
      | false =>
        obtain ⟨hV, hE⟩ := hno (by rw [hd]; rfl)
        rw [hV, hE]
        rw [hd] at m4
        simp
        refine call_intro m4 ?_ ?_
        · simp [rfM]
        simp [rfM]
        refine post_end (.inr rfl) ?_
        simp [Sta.zero, Sta.av, Conf.zero, Conf.av]
      | true =>
        rw [hd] at m4
        cases hrs : Sta.rises ⟨x, y, C⟩ with
        | false =>
          obtain ⟨hV, hE⟩ := hno (by rw [hd, hrs]; rfl)
          rw [hV, hE]
          rw [hrs] at m5
          simp
          refine call_intro m4 ?_ ?_
          · simp [rfM]
          simp [rfM]
          refine call_intro m5 ?_ ?_
          · simp [Sta.av, htx, hty, hlN, hlM]
          simp
          refine post_end (.inr rfl) ?_
          simp [Sta.zero, Sta.av, Conf.zero, Conf.av]
        | true =>
          obtain ⟨hV, hE⟩ := hyes (by rw [hd, hrs]; rfl)
          rw [hV, hE]
          rw [hrs] at m5
          simp
          refine call_intro m4 ?_ ?_
          · simp [rfM]
          simp [rfM]
          refine call_intro m5 ?_ ?_
          · simp [Sta.av, htx, hty, hlN, hlM]
          simp
          refine post_end (.inr rfl) ?_
          simp [Sta.av, htx, hty, hlN, hlM]
end Go.Proofs.YtbmdaaehogpeeaaDoor.WL

end
section
/-
  CHAPTER 18: bytes of snapshots, and back.
-/
namespace Go.Proofs.YtbmdaaehogpeeaaDoor.WL
open Go
set_option maxHeartbeats 8000000
variable {G : Nat → Option AV}
attribute [local irreducible] comp hb sha

theorem B_snap : B bSnap = [AV.v (.int .u8 115), .v (.int .u8 110), .v (.int .u8 97), .v (.int .u8 112)] := (rfl)
theorem Snp.body_len (s : Snp) : s.body.length = 44 + s.st.bytes.length := by
  have := txt_le s.st.bytes
  simp [Snp.body]
  omega
theorem Snp.bytes_len (s : Snp) : s.bytes.length = 76 + s.st.bytes.length := by
  rw [Snp.bytes, List.length_append, Snp.body_len]
  simp
  omega
theorem snbytes_meets (s : Snp) (h : s.st.Sm) : Meets Tryd.prog Gt fn_snap_Bytes [s.av] [] true (.row 3000 1 1 0 s.bytes.length) [(3000, .rows 1 1 (B s.bytes))] := by
  refine meets_of_go mix k_snap_Bytes ⟨by simp, by simp, by simp⟩ ?_
  have hbl := s.body_len
  have hyl := s.bytes_len
  have h5 := h.len
  have hy : s.bytes = (sha (bSnap ++ s.body)).bs ++ s.body := rfl
  have hbd : s.body = be8 s.height ++ s.tip.bs ++ txts [s.st.bytes] := by simp [Snp.body, txts]
  have m1 := wnum_meets (G := Gt) [] [s.height] (by simp)
  have m2 := wdigest_meets (G := Gt) (be8 s.height) [s.tip] (by simp)
  have m3 := cbytes11_meets (G := Gt) s.st h
  have htl := txt_le s.st.bytes
  have m4 := wtext_meets (G := Gt) (be8 s.height ++ s.tip.bs) [s.st.bytes] (by simp [txts]; omega) (by simp)
  have e1 : ([] : Bytes) ++ nums [s.height] = be8 s.height := by simp [nums]
  have e2 : be8 s.height ++ flatD [s.tip] = be8 s.height ++ s.tip.bs := by simp [flatD]
  rw [e1] at m1
  rw [e2] at m2
  rw [← hbd] at m4
  have hrl : bSnap.length = 4 := rfl
  have m5 := bytes_meets (G := Gt) s.body (by omega)
  have e3 : cat [bSnap, s.body] = bSnap ++ s.body := by simp [cat]
  have m6 := of_meets [bSnap, s.body] (by simp) (by rw [e3, List.length_append, hrl]; omega)
  rw [e3] at m6
  rw [hy] at hyl ⊢
  generalize sha (bSnap ++ s.body) = d at *
  have hav : s.av = .node [.v (.int .i64 s.height), dv s.tip, s.st.av] := rfl
  rw [hav]
  clear hbd e1 e2 e3 hy h hav
  have n1 : [AV.v (.int .i64 s.height)] = I64 [s.height] := rfl
  generalize be8 s.height ++ s.tip.bs = x2 at *
  generalize be8 s.height = x1 at *
  generalize s.body = x at *
  generalize s.st.bytes = y at *
  have hx : List.take x.length x = x := List.take_of_length_le (by omega)
  have hyt : List.take y.length y = y := List.take_of_length_le (by omega)
  have hB := B_snap
  generalize bSnap = r at *
  have hr : List.take 4 r = r := List.take_of_length_le (by omega)
  have ht1 : [AV.v (.string (mkS y))] = Strs [y] := rfl
  have hdl : d.bs.length = 32 := d.len
  have f1 : fitsB (32 + x.length) 1 := fits (by omega) (by omega)
  have hxn : x ≠ [] := fun h => by rw [h] at hbl; simp at hbl; omega
  have hBx : B x ≠ [] := fun h => by
    have := congrArg List.length h
    rw [B_length] at this
    exact hxn (List.length_eq_zero_iff.1 this)
  simp
  refine call_intro m1 ?_ ?_
  · simp [wrM, n1]
  simp [wrM]
  refine call_intro m2 ?_ ?_
  · simp [wrM, Dgs_1]
  simp [wrM]
  refine call_intro m3 ?_ ?_
  · simp
  simp [hyt]
  refine call_intro m4 ?_ ?_
  · simp [wrM, ht1, hyt]
  simp [wrM]
  refine call_intro m5 ?_ ?_
  · simp [wrM]
  simp [wrM]
  refine call_intro m6 ?_ ?_
  · simp [Bss, hB, hx, hr]
  simp
  refine call_intro m5 ?_ ?_
  · simp [wrM]
  simp [wrM, f1, hx, dv, hBx, hxn]
  refine post_end (.inr rfl) ?_
  simp [hdl, hx]
theorem rsnbytes_meets (s : Snp) (h : s.st.Sm) (hk : ∀ p ∈ s.st.pairs, p.key.length < 4294967296 ∧ p.val.length < 4294967296) : Meets Tryd.prog Gt fn_r18_Bytes [s.av] [] true (.v (.string (mkS s.bytes))) [] := by
  refine meets_of_go mix k_r18_Bytes ⟨by simp, by simp, by simp⟩ ?_
  have hbl := s.body_len
  have hyl := s.bytes_len
  have h5 := h.len
  have hy : s.bytes = (sha (bSnap ++ s.body)).bs ++ s.body := rfl
  have hbd : be8 s.height ++ (s.tip.bs ++ txt s.st.bytes) = s.body := by simp [Snp.body]
  have m1 := rfnum_meets (G := Gt) s.height
  have m2 := rfdigest_meets (G := Gt) s.tip
  have m3 := rbytes11_meets (G := Gt) s.st h hk
  have m4 := rftext_meets (G := Gt) s.st.bytes (by omega)
  have htl := txt_le s.st.bytes
  have l1 : (be8 s.height).length = 8 := by simp
  have l2 : s.tip.bs.length = 32 := s.tip.len
  have hrl : bSnap.length = 4 := rfl
  have m5 := rtext02_meets (bSnap ++ s.body) (by rw [List.length_append, hrl]; omega)
  rw [hy] at hyl ⊢
  generalize sha (bSnap ++ s.body) = d at *
  have m6 := rfdigest_meets (G := Gt) d
  have l3 : d.bs.length = 32 := d.len
  have hav : s.av = .node [.v (.int .i64 s.height), dv s.tip, s.st.av] := rfl
  rw [hav]
  clear hy h hav
  have hc : ∀ z : Bytes, (115 :: 110 :: 97 :: 112 :: z : Bytes) = bSnap ++ z := fun _ => rfl
  generalize be8 s.height = x1 at *
  generalize s.body = x at *
  generalize s.st.bytes = y at *
  generalize txt y = ty at *
  have f1 : fitsS (8 + 32) := fitS (by omega)
  have f2 : fitsS (8 + 32 + ty.length) := fitS (by omega)
  have f3 : fitsS (4 + x.length) := fitS (by omega)
  have f4 : fitsS (32 + x.length) := fitS (by omega)
  simp
  refine call_intro m1 ?_ ?_
  · simp
  simp [l1]
  refine call_intro m2 ?_ ?_
  · simp
  simp [l1, l2, f1]
  refine call_intro m3 ?_ ?_
  · simp
  simp
  refine call_intro m4 ?_ ?_
  · simp
  simp [l1, l2, f2, hbd, f3]
  refine call_intro m5 ?_ ?_
  · simp [hc]
  simp
  refine call_intro m6 ?_ ?_
  · simp
  simp [l3, f4]
  refine post_end (.inr rfl) ?_
  simp

/-! Reading. -/
theorem Rd.flt4 {b : Bytes} (h : (Rd.of b).n4.done = true) : 32 ≤ b.length := by
  have hb : (Rd.of b).n4.bad = false := by
    unfold Rd.done at h
    simp at h
    exact h.1
  have h3 : (Rd.of b).n3.bad = false := ((textF_law 4194304).one _ hb).1
  have h2 : (Rd.of b).n2.bad = false := (dgF_law.one _ h3).1
  have h1 : (Rd.of b).n1.bad = false := ((inF_law 0 1024).one _ h2).1
  have h0 := (dgF_law.one _ h1).2.2.1
  have h4 : (Rd.of b).s = b := rfl
  rw [h4] at h0
  rw [h0]
  show 32 ≤ ((Rd.of b).dg.bs ++ _).length
  rw [List.length_append, Dg.length]
  omega
def snE (b : Bytes) : Int := if snOk b = true then 0 else 4
def snV (b : Bytes) : Snp := if snOk b = true then snOf b else Snp.zero
end Go.Proofs.YtbmdaaehogpeeaaDoor.WL

end
