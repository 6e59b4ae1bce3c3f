/- Texts put together: S18a, S11d, S18b, S18c, S11e, S18h. -/
import Derived.Test.YtbmdaaehogpeeaaDoorWm9
section
/-
  CHAPTER 11: chunk.Bytes and the reference's.
-/
namespace Go.Proofs.YtbmdaaehogpeeaaDoor.WL
open Go
set_option maxHeartbeats 8000000
variable {G : Nat → Option AV}

theorem txts_2 (a b : Bytes) : txts [a, b] = txt a ++ txt b := by simp [txts]
theorem Strs_2 (a b : Bytes) : [AV.v (.string (mkS a)), .v (.string (mkS b))] = Strs [a, b] := rfl
structure Sta.Sm (s : Sta) : Prop where
  ms : s.conf.ms.length ≤ 1000
  ps : s.pairs.length ≤ 1000000
  rs : s.reps.length ≤ 1000000
  vs : ∀ a ∈ s.reps, a.vals.length ≤ 1000000
  len : s.bytes.length ≤ 30000000
theorem prsB_len_take (ps : List Pr) (j : Nat) : (prsB (ps.take j)).length ≤ (prsB ps).length := by
  have h : prsB (ps.take j ++ ps.drop j) = prsB (ps.take j) ++ prsB (ps.drop j) := by unfold prsB; rw [List.flatMap_append]
  rw [List.take_append_drop] at h
  rw [h, List.length_append]
  omega
theorem rpsB_len_take (ps : List Rep) (j : Nat) : (rpsB (ps.take j)).length ≤ (rpsB ps).length := by
  have h : rpsB (ps.take j ++ ps.drop j) = rpsB (ps.take j) ++ rpsB (ps.drop j) := by unfold rpsB; rw [List.flatMap_append]
  rw [List.take_append_drop] at h
  rw [h, List.length_append]
  omega
theorem Sta.bytes_len (s : Sta) : s.bytes.length = s.conf.bytes.length + 8 + (prsB s.pairs).length + 8 + (rpsB s.reps).length := by
  simp [Sta.bytes]
  omega
theorem cbytes11_meets (s : Sta) (h : s.Sm) : Meets Tryd.prog G fn_chunk_Bytes [s.av] [] true (.row 3000 1 1 0 s.bytes.length) [(3000, .rows 1 1 (B s.bytes))] := by
  refine meets_of_go mix k_chunk_Bytes ⟨by simp, by simp, by simp⟩ ?_
  obtain ⟨h1, h2, h3, h4, h5⟩ := h
  have hl := s.bytes_len
  have hbt : s.bytes = (s.conf.bytes ++ be8 (s.pairs.length : Int) ++ prsB s.pairs ++ be8 (s.reps.length : Int)) ++ rpsB s.reps := rfl
  obtain ⟨C, hC⟩ : ∃ C, s.conf = C := ⟨_, rfl⟩
  obtain ⟨ps, hps⟩ : ∃ ps, s.pairs = ps := ⟨_, rfl⟩
  obtain ⟨rs, hrs⟩ : ∃ rs, s.reps = rs := ⟨_, rfl⟩
  have hav : s.av = .node [.sl 2 (Prs ps), .sl 4 (Rps rs), C.av] := by rw [← hC, ← hps, ← hrs]; rfl
  have hx1 : (C.bytes ++ nums [(ps.length : Int)]).length = C.bytes.length + 8 := by simp [nums_length]
  have hn1 : be8 (ps.length : Int) = nums [(ps.length : Int)] := by simp [nums]
  have hn2 : be8 (rs.length : Int) = nums [(rs.length : Int)] := by simp [nums]
  simp only [hC, hps, hrs] at h1 h2 h3 h4 hl hbt
  rw [hn1, hn2] at hbt
  rw [hav, hbt]
  rw [hl] at h5
  have hxb : (C.bytes ++ nums [(ps.length : Int)] ++ prsB ps ++ nums [(rs.length : Int)]).length = C.bytes.length + 8 + (prsB ps).length + 8 := by simp [nums_length]; omega
  have m1 := cwrite_meets (G := G) [] C (by simp) h1
  have m2 := wnum_meets (G := G) C.bytes [(ps.length : Int)] (by simp; omega)
  rw [List.nil_append] at m1
  have htl := prsB_len_take ps
  have htr := rpsB_len_take rs
  obtain ⟨X, hX⟩ : ∃ X, C.bytes ++ nums [(ps.length : Int)] = X := ⟨_, rfl⟩
  rw [hX] at m2 hx1 hxb ⊢
  obtain ⟨F, hF⟩ : ∃ F : Nat → Bytes, ∀ i, F i = X ++ prsB (ps.take i) := ⟨_, fun _ => rfl⟩
  have hF0 : X = F 0 := by rw [hF]; simp [prsB]
  have hFN : X ++ prsB ps = F ps.length := by rw [hF, List.take_length]
  have hFl : ∀ i, (F i).length ≤ X.length + (prsB ps).length := by intro i; rw [hF, List.length_append]; have := htl i; omega
  have m3 := wnum_meets (G := G) (F ps.length) [(rs.length : Int)] (by have := hFl ps.length; simp; omega)
  rw [hFN] at hxb ⊢
  obtain ⟨Y, hY⟩ : ∃ Y, F ps.length ++ nums [(rs.length : Int)] = Y := ⟨_, rfl⟩
  rw [hY] at m3 hxb ⊢
  obtain ⟨R, hR⟩ : ∃ R : Nat → Bytes, ∀ i, R i = Y ++ rpsB (rs.take i) := ⟨_, fun _ => rfl⟩
  have hR0 : Y = R 0 := by rw [hR]; simp [rpsB]
  have hRN : Y ++ rpsB rs = R rs.length := by rw [hR, List.take_length]
  have hRl : ∀ i, (R i).length ≤ Y.length + (rpsB rs).length := by intro i; rw [hR, List.length_append]; have := htr i; omega
  have hRlN := hRl rs.length
  rw [hRN]
  have m5 := bytes_meets (G := G) (R rs.length) (by omega)
  have e1 : [AV.v (.int .i64 (ps.length : Int))] = I64 [(ps.length : Int)] := rfl
  have e2 : [AV.v (.int .i64 (rs.length : Int))] = I64 [(rs.length : Int)] := rfl
  have hXl : X.length = (F 0).length := by rw [← hF0]
  have hYl : Y.length = (R 0).length := by rw [← hR0]
  rw [hF0] at m2 hx1
  rw [hR0] at m3
  clear hX hY
  simp
  refine call_intro m1 ?_ ?_
  · simp [wrM]
  simp [wrM]
  refine call_intro m2 ?_ ?_
  · simp [wrM, e1]
  simp [wrM]
  refine go_up ps.length (fun j (_ : Unit) => True) (fun j _ c => ⟨[(1, .ptr 1 c 0), (3, .ptr 3 c 0), (21, .sl 2 (Prs ps)), (22, .v (.int .i64 (ps.length : Nat))), (23, .v (.int .i64 (j : Nat)))],
    [(1, .var c (.node [.sl 2 (Prs ps), .sl 4 (Rps rs), C.av])), (3, .var c (.node [.row 2000 1 c 0 (F j).length])), (2000, .rows c 1 (B (F j)))], c + 1⟩) () _ (Weak.re (by simp)) trivial ?_ ?_
  · intro j _ c hj _
    have hw : IntKind.i64.wrap ((j : Int) + 1) = ((j + 1 : Nat) : Int) := w64_succ (by omega)
    have hlj := hFl (j + 1)
    have hFs : F j ++ txts [ps[j].key, ps[j].val] = F (j + 1) := by rw [hF, hF, prsB_take ps hj, List.append_assoc, txts_2]
    have hll : (F j).length + (txts [ps[j].key, ps[j].val]).length = (F (j + 1)).length := by rw [← hFs, List.length_append]
    have m4 := wtext_meets (G := G) (F j) [ps[j].key, ps[j].val] (by omega) (by simp)
    rw [hFs] at m4
    simp [hj, prA]
    refine call_intro m4 ?_ ?_
    · simp [wrM, Strs_2]
    simp [wrM]
    simp [hw]
    exact ⟨(), _, Weak.re (by simp), trivial⟩
  · intro _ c _
    simp
    refine call_intro m3 ?_ ?_
    · simp [wrM, e2]
    simp [wrM]
    refine go_up rs.length (fun j (_ : Unit) => True) (fun j _ c => ⟨[(3, .ptr 3 c 0), (42, .sl 4 (Rps rs)), (43, .v (.int .i64 (rs.length : Nat))), (44, .v (.int .i64 (j : Nat)))],
      [(3, .var c (.node [.row 2000 1 c 0 (R j).length])), (2000, .rows c 1 (B (R j)))], c + 1⟩) () _ (Weak.re (by simp)) trivial ?_ ?_
    · intro j _ c hj _
      have hw : IntKind.i64.wrap ((j : Int) + 1) = ((j + 1 : Nat) : Int) := w64_succ (by omega)
      have hlj := hRl (j + 1)
      have hRs : R j ++ rs[j].bytes = R (j + 1) := by rw [hR, hR, rpsB_take rs hj, List.append_assoc]
      have hll : (R j).length + rs[j].bytes.length = (R (j + 1)).length := by rw [← hRs, List.length_append]
      have m4 := qwrep_meets (G := G) (R j) rs[j] (by omega) (h4 _ (List.getElem_mem hj))
      rw [hRs] at m4
      simp [hj]
      refine call_intro m4 ?_ ?_
      · simp [wrM]
      simp [wrM]
      simp [hw]
      exact ⟨(), _, Weak.re (by simp), trivial⟩
    · intro _ c _
      simp
      refine call_intro m5 ?_ ?_
      · simp [wrM]
      simp [wrM]
      refine post_end (.inr rfl) ?_
      simp
end Go.Proofs.YtbmdaaehogpeeaaDoor.WL

end
section
/-
  CHAPTER 11: leaves, Pieces.
-/
namespace Go.Proofs.YtbmdaaehogpeeaaDoor.WL
open Go
set_option maxHeartbeats 8000000
attribute [local irreducible] comp hb sha leafD pairD

theorem cbytesF_meets (s : Sta) (h : s.Sm) : Meets Tryd.prog Gt fn_chunk_Bytes [s.av] [] false (.sl 1 (B s.bytes)) [] := by
  refine (cbytes11_meets s h).freeze ⟨by simp, by simp, by simp⟩ ?_
  simp
theorem pathF_meets (ds : List Dg) (at_ : Nat) (h : at_ < ds.length) (hn : ds.length ≤ 1000000) :
    Meets Tryd.prog Gt fn_tree_Path [.v (.int .i64 (at_ : Nat)), .sl 32 (Dgs ds)] [] false (.tup [.sl 32 (Dgs (pathD ds at_)), .v (.bool true)]) [] := by
  refine (pathP_meets ds at_ h hn).freeze ⟨by simp, by simp, by simp⟩ ?_
  simp
theorem Dgs_leaf (ps : List Bytes) (j : Nat) (hj : j < ps.length) : Dgs ((ps.map leafD).take j) ++ [dv (leafD ps[j])] = Dgs ((ps.map leafD).take (j + 1)) := by
  rw [List.take_add_one, List.getElem?_eq_getElem (by simpa using hj)]
  simp [Dgs]
theorem leaves_meets (ps : List Bytes) (hl : ps.length ≤ 1000000) (hb : ∀ p ∈ ps, p.length ≤ 1000000) :
    Meets Tryd.prog Gt fn_chunk_leaves [.sl 1 (Bws ps)] [] true (.row 3 32 1 0 ps.length) [(3, .rows 1 32 (Dgs (ps.map leafD)))] := by
  refine meets_of_go mix k_chunk_leaves ⟨by simp, by simp, by simp⟩ ?_
  simp
  refine go_up ps.length (fun j (_ : Unit) => True) (fun j _ c => ⟨[(3, .row 3 32 c 0 j), (6, .sl 1 (Bws ps)), (7, .v (.int .i64 (ps.length : Nat))), (8, .v (.int .i64 (j : Nat)))], [(3, .rows c 32 (Dgs ((ps.map leafD).take j)))], c + 1⟩) () _ (Weak.re (by simp)) trivial ?_ ?_
  · intro j _ c hj _
    have hw : IntKind.i64.wrap ((j : Int) + 1) = ((j + 1 : Nat) : Int) := w64_succ (by omega)
    have f1 : fitsB (j + 1) 32 := fits (by omega) (by omega)
    have hml : min j ps.length = j := by omega
    have m1 := leaf_meets ps[j] (hb _ (List.getElem_mem hj))
    have hd := Dgs_leaf ps j hj
    simp [hj]
    refine call_intro m1 ?_ ?_
    · simp
    simp
    simp [f1, hml, hw]
    exact ⟨(), _, Weak.re (by simp [hd, hml]), trivial⟩
  · intro _ c _
    have ht : (ps.map leafD).take ps.length = ps.map leafD := List.take_of_length_le (by simp)
    simp [ht]
    refine post_end (.inr rfl) ?_
    simp [ht]
theorem leavesF_meets (ps : List Bytes) (hl : ps.length ≤ 1000000) (hb : ∀ p ∈ ps, p.length ≤ 1000000) :
    Meets Tryd.prog Gt fn_chunk_leaves [.sl 1 (Bws ps)] [] false (.sl 32 (Dgs (ps.map leafD))) [] := by
  refine (leaves_meets ps hl hb).freeze ⟨by simp, by simp, by simp⟩ ?_
  have ht : (ps.map leafD).take ps.length = ps.map leafD := List.take_of_length_le (by simp)
  simp [ht]
/-- The pieces of some texts. -/
def pcsOf (ps : List Bytes) : List Piece := ps.mapIdx fun i c => ⟨(i : Nat), (ps.length : Nat), rootD (ps.map leafD), c, pathD (ps.map leafD) i⟩
@[simp] theorem pcsOf_length (ps : List Bytes) : (pcsOf ps).length = ps.length := by simp [pcsOf]
theorem pcsOf_get (ps : List Bytes) (j : Nat) (h : j < ps.length) : (pcsOf ps)[j]'(by simpa using h) = ⟨(j : Nat), (ps.length : Nat), rootD (ps.map leafD), ps[j], pathD (ps.map leafD) j⟩ := by simp [pcsOf]
theorem pcsOf_take (ps : List Bytes) (j : Nat) (h : j < ps.length) : Pcs ((pcsOf ps).take j) ++ [Piece.av ⟨(j : Nat), (ps.length : Nat), rootD (ps.map leafD), ps[j], pathD (ps.map leafD) j⟩] = Pcs ((pcsOf ps).take (j + 1)) := by
  rw [List.take_add_one, List.getElem?_eq_getElem (by simpa using h), pcsOf_get ps j h]
  simp [Pcs]
theorem chunks_fit {bs : Bytes} (h : bs.length ≤ 200000000) : (chunks bs).length ≤ 1000000 ∧ ∀ p ∈ chunks bs, p.length ≤ 256 := by
  refine ⟨by rw [chunks_length]; unfold cntC; omega, fun p hp => ?_⟩
  obtain ⟨j, _, rfl⟩ := List.mem_map.1 hp
  rw [chA_len]
  omega
theorem pieces_meets (s : Sta) (h : s.Sm) : Meets Tryd.prog Gt fn_chunk_Pieces [s.av] [] false (.row 5 36 1 0 (chunks s.bytes).length) [(5, .rows 1 36 (Pcs (pcsOf (chunks s.bytes))))] := by
  refine meets_of_go mix k_chunk_Pieces ⟨by simp, by simp, by simp⟩ ?_
  have hsl := s.bytes_len
  have h5 := h.len
  have m1 := cbytesF_meets s h
  have m2 := parts_meets (G := Gt) s.bytes (fun e => by rw [e] at hsl; simp at hsl; omega) (by omega)
  obtain ⟨k1, k2⟩ := chunks_fit (bs := s.bytes) (by omega)
  generalize chunks s.bytes = ps at *
  generalize s.bytes = bs at *
  have m3 := leavesF_meets ps k1 (fun p hp => by have := k2 p hp; omega)
  have hdl : (ps.map leafD).length = ps.length := by simp
  have hpt := pcsOf_take ps
  have hpl := pcsOf_length ps
  have m4 := fun j (hj : j < ps.length) => pathF_meets (ps.map leafD) j (by rw [hdl]; exact hj) (by rw [hdl]; exact k1)
  have m5 := root_meets (ps.map leafD) (by rw [hdl]; exact k1)
  generalize ps.map leafD = ds at *
  generalize pcsOf ps = qs at *
  generalize rootD ds = R at *
  simp
  refine call_intro m1 ?_ ?_
  · simp
  simp
  refine call_intro m2 ?_ ?_
  · simp
  simp
  refine call_intro m3 ?_ ?_
  · simp
  simp
  refine go_up ps.length (fun j (_ : Unit) => True) (fun j _ c => ⟨[(4, .sl 32 (Dgs ds)), (5, .row 5 36 c 0 j), (15, .sl 1 (Bws ps)), (16, .v (.int .i64 (ps.length : Nat))), (17, .v (.int .i64 (j : Nat)))], [(5, .rows c 36 (Pcs (qs.take j)))], c + 1⟩) () _ (Weak.re (by simp)) trivial ?_ ?_
  · intro j _ c hj _
    have hw : IntKind.i64.wrap ((j : Int) + 1) = ((j + 1 : Nat) : Int) := w64_succ (by omega)
    have f1 : fitsB (j + 1) 88 := fits (by omega) (by omega)
    have hml : min j qs.length = j := by omega
    have m4j := m4 j hj
    have hd := hpt j hj
    generalize pathD ds j = pth at *
    simp only [Piece.av] at hd
    simp [hj]
    refine call_intro m4j ?_ ?_
    · simp
    simp
    refine call_intro m5 ?_ ?_
    · simp
    simp
    simp [f1, hml, hw, hdl]
    exact ⟨(), _, Weak.re (by simp [hd, hml]), trivial⟩
  · intro _ c _
    have ht : qs.take ps.length = qs := List.take_of_length_le (by omega)
    simp [ht]
    refine post_end (.inr rfl) ?_
    simp [ht]
end Go.Proofs.YtbmdaaehogpeeaaDoor.WL

end
section
/-
  CHAPTERS 10, 11: the reference's bytes of a state; do they rise?
-/
namespace Go.Proofs.YtbmdaaehogpeeaaDoor.WL
open Go
set_option maxHeartbeats 8000000
variable {G : Nat → Option AV}

theorem txt_le (s : Bytes) : (txt s).length = s.length + 4 := by simp [txt]; omega
@[simp] theorem step_sgeq {m : Nat → Option Loc} {g d : Nat} (a b : Bytes) : step (.bin .geq) [.v (.string (mkS a)), .v (.string (mkS b))] m g d = some (.v (.bool !ltB a b), []) := (rfl)
end Go.Proofs.YtbmdaaehogpeeaaDoor.WL

end
section
/-
  CHAPTER 11: chunk.State, where the document says OK.
-/
namespace Go.Proofs.YtbmdaaehogpeeaaDoor.WL
open Go
set_option maxHeartbeats 8000000
variable {G : Nat → Option AV}

theorem repR_take {α : Type} (K : List α → Fmt α) (r : Rd) : ∀ (n j : Nat), j ≤ n → ((repR K r n).1).take j = (repR K r j).1
  | 0, j, h => by
    obtain rfl : j = 0 := by omega
    rfl
  | n + 1, j, h => by
    rcases Nat.lt_or_ge n j with h1 | h1
    · obtain rfl : j = n + 1 := by omega
      exact List.take_of_length_le (by simp)
    · simp only [repR]
      rw [List.take_append_of_le_length (by simp; omega), repR_take K r n j h1]
theorem repR_get {α : Type} (F : Fmt α) (r : Rd) {n j : Nat} (h : j < n) : ((repR (fun _ => F) r n).1)[j]? = some (F.rd (repR (fun _ => F) r j).2) := by
  have h1 := repR_take (fun _ => F) r n (j + 1) h
  have h2 : ((repR (fun _ => F) r n).1)[j]? = (((repR (fun _ => F) r n).1).take (j + 1))[j]? := by rw [List.getElem?_take]; simp
  rw [h2, h1]
  simp [repR]
theorem count256 (r : Rd) : (0 : Int) ≤ r.inn 0 256 ∧ r.inn 0 256 ≤ 256 := r.inn_range 0 256 (by omega)
theorem count64 (r : Rd) : (0 : Int) ≤ r.inn 0 64 ∧ r.inn 0 64 ≤ 64 := r.inn_range 0 64 (by omega)

theorem w64_one : IntKind.i64.wrap 1 = 1 := w64_id (by omega)
@[simp] theorem prA_key (p : Pr) : sub false 1 (prA p) 0 = some (.v (.string (mkS p.key))) := by simp [prA]
@[simp] theorem avS_client (a : Rep) : sub false 1 a.avS 0 = some (.v (.int .i64 a.client)) := by simp [Rep.avS]
theorem cstate_meets (b : Bytes) (hb : b.length ≤ 50000000) (h : stOk b = true) : Meets Tryd.prog G fn_chunk_State [.sl 1 (B b)] [] false (.tup [(stOf b).av, .v (.int .i64 0)]) [] := by
  have hfb : fitsB b.length 1 := fits (by omega) (by omega)
  refine meets_of_go mix k_chunk_State ⟨by simp, by simp, by simp⟩ ?_
  unfold stOf
  simp only [stOk, Bool.and_eq_true] at h
  obtain ⟨hd, hr⟩ := h
  rw [Sta.rises_iff] at hr
  have m0 := read_meets (G := G) b hfb
  obtain ⟨r, hre⟩ : ∃ r, Rd.of b = r := ⟨_, rfl⟩
  have hr0 : r.pre = [] ∧ r.s = b ∧ r.bad = false := by rw [← hre]; exact ⟨rfl, rfl, rfl⟩
  rw [hre] at hd hr ⊢
  have m1 := cread_meets (G := G) r
  rw [stF_rd] at hr ⊢
  rw [stF_rd'] at hd
  simp only at hr
  have hN := count256 (confF.rd' r)
  have m2 := in_meets (G := G) (confF.rd' r) 0 256
  have m3 := in_meets (G := G) r.st2 0 64
  have hM := count64 r.st2
  have hNe : ((r.stN : Nat) : Int) = (confF.rd' r).inn 0 256 := by unfold Rd.stN; omega
  have hMe : ((r.stM : Nat) : Int) = r.st2.inn 0 64 := by unfold Rd.stM; omega
  rw [← hNe] at m2 hN
  rw [← hMe] at m3 hM
  have hs1 : (confF.rd' r).inn' 0 256 = r.st1 := rfl
  have hs3 : r.st2.inn' 0 64 = r.st3 := rfl
  have hs2 : (repR (fun _ => prF) r.st1 r.stN).2 = r.st2 := rfl
  rw [hs1] at m2
  rw [hs3] at m3
  clear hs1 hs3 hNe hMe
  generalize r.stN = N at *
  generalize r.stM = M at *
  generalize r.st1 = r1 at *
  generalize r.st2 = r2 at *
  generalize r.st3 = r3 at *
  generalize confF.rd r = C at *
  generalize confF.rd' r = rc at *
  obtain ⟨L, hL⟩ : ∃ L : Nat → List Pr, ∀ i, L i = (repR (fun _ => prF) r1 i).1 := ⟨_, fun _ => rfl⟩
  obtain ⟨R, hR⟩ : ∃ R : Nat → Rd, ∀ i, R i = (repR (fun _ => prF) r1 i).2 := ⟨_, fun _ => rfl⟩
  have hL0 : L 0 = [] := by rw [hL]; simp only [repR]
  have hR0 : r1 = R 0 := by rw [hR]; simp only [repR]
  have hRN : R N = r2 := by rw [hR]; exact hs2
  have hLl : ∀ i, (L i).length = i := fun i => by rw [hL]; exact repR_length _ r1 i
  have hLs : ∀ i, L (i + 1) = L i ++ [⟨(R i).text 1024, ((R i).text' 1024).text 1024⟩] := fun i => by rw [hL, hL, hR]; simp only [repR]; rfl
  have hRs : ∀ i, R (i + 1) = ((R i).text' 1024).text' 1024 := fun i => by rw [hR, hR]; simp only [repR]; rfl
  have hLg : ∀ i j, i < j → (L j)[i]? = some ⟨(R i).text 1024, ((R i).text' 1024).text 1024⟩ := fun i j hij => by rw [hL, hR]; exact repR_get prF r1 hij
  obtain ⟨L2, hL2⟩ : ∃ L : Nat → List Rep, ∀ i, L i = (repR (fun _ => replyF) r3 i).1 := ⟨_, fun _ => rfl⟩
  obtain ⟨R2, hR2⟩ : ∃ R : Nat → Rd, ∀ i, R i = (repR (fun _ => replyF) r3 i).2 := ⟨_, fun _ => rfl⟩
  have hL20 : L2 0 = [] := by rw [hL2]; simp only [repR]
  have hR20 : r3 = R2 0 := by rw [hR2]; simp only [repR]
  have hL2l : ∀ i, (L2 i).length = i := fun i => by rw [hL2]; exact repR_length _ r3 i
  have hL2s : ∀ i, L2 (i + 1) = L2 i ++ [(R2 i).rep] := fun i => by rw [hL2, hL2, hR2]; simp only [repR]; rfl
  have hR2s : ∀ i, R2 (i + 1) = (R2 i).rep' := fun i => by rw [hR2, hR2]; simp only [repR]; rfl
  have hL2g : ∀ i j, i < j → (L2 j)[i]? = some (R2 i).rep := fun i j hij => by rw [hL2, hR2]; exact repR_get replyF r3 hij
  rw [← hL, ← hL2] at hr
  rw [← hR2] at hd
  rw [← hL, ← hL2]
  obtain ⟨hr1, hr2⟩ := hr
  have hord : ∀ j, j < N → 0 < j → ∃ p, (L j)[j - 1]? = some p ∧ ltB p.key ((R j).text 1024) = true := by
    intro j hj h0
    have h1 := hr1 j (by rw [hLl]; exact hj) h0
    have g1 := hLg (j - 1) N (by omega)
    have g2 := hLg j N hj
    rw [List.getElem?_eq_getElem (by rw [hLl]; omega)] at g1 g2
    rw [Option.some.inj g1, Option.some.inj g2] at h1
    exact ⟨_, hLg (j - 1) j (by omega), h1⟩
  have hord2 : ∀ j, j < M → 0 < j → ∃ p, (L2 j)[j - 1]? = some p ∧ p.client < (R2 j).rep.client := by
    intro j hj h0
    have h1 := hr2 j (by rw [hL2l]; exact hj) h0
    have g1 := hL2g (j - 1) M (by omega)
    have g2 := hL2g j M hj
    rw [List.getElem?_eq_getElem (by rw [hL2l]; omega)] at g1 g2
    rw [Option.some.inj g1, Option.some.inj g2] at h1
    exact ⟨_, hL2g (j - 1) j (by omega), h1⟩
  clear hr1 hr2 hL hR hL2 hR2 hs2
  obtain ⟨p0, s0, b0⟩ := hr0
  simp
  refine call_intro m0 ?_ ?_
  · simp
  simp
  refine call_intro m1 ?_ ?_
  · simp [rdM, p0, s0, b0]
  simp [rdM, p0, s0, b0]
  refine call_intro m2 ?_ ?_
  · simp [rdM]
  simp [rdM]
  rw [hR0]
  refine go_up N (fun j (_ : Unit) => True) (fun j _ c => ⟨[(2, .ptr 2 c 0), (4, .ptr 1161000 c 0), (5, .ptr 5 c 0), (16, .v (.int .i64 (N : Nat))), (17, .v (.int .i64 (j : Nat)))],
    [(2, .var c Sta.zero.av), (5, .var c (.node [.row 46 2 c 0 j, .v (.slice none 0 0), C.av])), (46, .rows c 2 (Prs (L j))),
     (1161000, .var c (.node [.row 1162000 1 c (R j).pre.length (R j).s.length, .v (.bool (R j).bad)])), (1162000, .rows c 1 (B ((R j).pre ++ (R j).s)))], c + 1⟩) () _ (Weak.re (by simp [hL0, Sta.zero, Sta.av, Conf.zero, Conf.av])) trivial ?_ ?_
  · intro j _ c hj _
    have hw : IntKind.i64.wrap ((j : Int) + 1) = ((j + 1 : Nat) : Int) := w64_succ (by omega)
    have f1 : fitsB (j + 1) 32 := fits (by omega) (by omega)
    have e1 := hLs j
    have e2 := hRs j
    have hlj := hLl j
    have ho := hord j hj
    have hlg := hLg
    generalize R j = q at *
    have m4 := text_meets (G := G) q 1024
    generalize q.text 1024 = k1 at *
    generalize q.text' 1024 = q1 at *
    have m5 := text_meets (G := G) q1 1024
    generalize q1.text 1024 = k2 at *
    generalize q1.text' 1024 = q2 at *
    generalize L j = x at *
    have hS : Prs x ++ [.node [.v (.string (mkS k1)), .v (.string (mkS k2))]] = Prs (x ++ [⟨k1, k2⟩]) := Prs_snoc x ⟨k1, k2⟩
    rcases Nat.eq_zero_or_pos j with h0 | hp
    · have hx0 : x = [] := List.length_eq_zero_iff.1 (by omega)
      subst h0
      simp [hj]
      refine call_intro m4 ?_ ?_
      · simp [rdM]
      simp [rdM]
      refine call_intro m5 ?_ ?_
      · simp [rdM]
      simp [rdM, f1, hlj, hS]
      exact ⟨(), _, Weak.re (by simp [e1, e2, w64_one]), trivial⟩
    · obtain ⟨p, hp1, hp2⟩ := ho hp
      have hw1 : IntKind.i64.wrap ((j : Int) - 1) = ((j - 1 : Nat) : Int) := by rw [w64_id (by omega)]; omega
      have hp' : (0 : Int) < j := by omega
      have hj1 : j - 1 < j := by omega
      simp [hj]
      refine call_intro m4 ?_ ?_
      · simp [rdM]
      simp [rdM]
      obtain ⟨_, hp3⟩ := List.getElem?_eq_some_iff.1 hp1
      refine call_intro m5 ?_ ?_
      · simp [rdM]
      simp [rdM, f1, hlj, hS, hp', hp, hw1, hp1, hp2, hp3, hj1]
      simp [hw]
      exact ⟨(), _, Weak.re (by simp [e1, e2]), trivial⟩
  · intro _ c _
    have hlN := hLl N
    rw [hRN]
    generalize L N = x at *
    simp
    refine call_intro m3 ?_ ?_
    · simp [rdM]
    simp [rdM]
    rw [hR20]
    refine go_up M (fun j (_ : Unit) => True) (fun j _ c => ⟨[(2, .ptr 2 c 0), (4, .ptr 1501000 c 0), (5, .ptr 5 c 0), (50, .v (.int .i64 (M : Nat))), (51, .v (.int .i64 (j : Nat)))],
      [(2, .var c Sta.zero.av), (5, .var c (.node [.row 46 2 c 0 N, .row 77 4 c 0 j, C.av])), (46, .rows c 2 (Prs x)), (77, .rows c 4 (Rps (L2 j))),
       (1501000, .var c (.node [.row 1502000 1 c (R2 j).pre.length (R2 j).s.length, .v (.bool (R2 j).bad)])), (1502000, .rows c 1 (B ((R2 j).pre ++ (R2 j).s)))], c + 1⟩) () _ (Weak.re (by simp [hL20])) trivial ?_ ?_
    · intro j _ c hj _
      have hw : IntKind.i64.wrap ((j : Int) + 1) = ((j + 1 : Nat) : Int) := w64_succ (by omega)
      have f1 : fitsB (j + 1) 48 := fits (by omega) (by omega)
      have e1 := hL2s j
      have e2 := hR2s j
      have hlj := hL2l j
      have ho := hord2 j hj
      generalize R2 j = q at *
      have m4 := qrrep_frz (G := G) q
      generalize q.rep = a at *
      generalize q.rep' = q1 at *
      generalize L2 j = y at *
      have hS := Rps_snoc y a
      rcases Nat.eq_zero_or_pos j with h0 | hp
      · have hx0 : y = [] := List.length_eq_zero_iff.1 (by omega)
        subst h0
        simp [hj]
        refine call_intro m4 ?_ ?_
        · simp [rdM]
        simp [rdM, f1, hlj, hS]
        exact ⟨(), _, Weak.re (by simp [e1, e2, w64_one]), trivial⟩
      · obtain ⟨p, hp1, hp2⟩ := ho hp
        obtain ⟨_, hp3⟩ := List.getElem?_eq_some_iff.1 hp1
        have hw1 : IntKind.i64.wrap ((j : Int) - 1) = ((j - 1 : Nat) : Int) := by rw [w64_id (by omega)]; omega
        have hp' : (0 : Int) < j := by omega
        have hj1 : j - 1 < j := by omega
        have hp4 : ¬ a.client ≤ p.client := by omega
        simp [hj]
        refine call_intro m4 ?_ ?_
        · simp [rdM]
        simp [rdM, f1, hlj, hS, hp', hp, hw1, hp1, hp4, hp3, hj1]
        simp [hw]
        exact ⟨(), _, Weak.re (by simp [e1, e2]), trivial⟩
    · intro _ c _
      have hlM := hL2l M
      generalize L2 M = y at *
      generalize R2 M = q at *
      have m4 := end_meets (G := G) q
      rw [hd] at m4
      have htx : List.take N x = x := List.take_of_length_le (by omega)
      have hty : List.take M y = y := List.take_of_length_le (by omega)
      simp
      refine call_intro m4 ?_ ?_
      · simp [rdM]
      simp [rdM]
      refine post_end (.inr rfl) ?_
      simp [Sta.av, htx, hty, hlN, hlM]
end Go.Proofs.YtbmdaaehogpeeaaDoor.WL

end
section
/-
  CHAPTER 11: top, Root, Check and Join of one piece.
-/
namespace Go.Proofs.YtbmdaaehogpeeaaDoor.WL
open Go
set_option maxHeartbeats 8000000
attribute [local irreducible] comp hb sha leafD pairD

def bState : Bytes := [115, 116, 97, 116, 101]
theorem B_state : B bState = [AV.v (.int .u8 115), .v (.int .u8 116), .v (.int .u8 97), .v (.int .u8 116), .v (.int .u8 101)] := (rfl)
def topD (n : Int) (R : Dg) : Dg := sha (bState ++ (be8 n ++ R.bs))
theorem top_meets (n : Int) (R : Dg) : Meets Tryd.prog Gt fn_chunk_top [.v (.int .i64 n), dv R] [] true (dv (topD n R)) [] := by
  refine meets_of_go mix k_chunk_top ⟨by simp, by simp, by simp⟩ ?_
  have m1 := wnum_meets (G := Gt) [] [n] (by simp)
  have m2 := wdigest_meets (G := Gt) (be8 n) [R] (by simp)
  have e1 : ([] : Bytes) ++ nums [n] = be8 n := by simp [nums]
  have e2 : be8 n ++ flatD [R] = be8 n ++ R.bs := by simp [flatD]
  rw [e1] at m1
  rw [e2] at m2
  have hxl : (be8 n ++ R.bs).length = 40 := by simp
  have hrl : bState.length = 5 := rfl
  have e3 : cat [bState, be8 n ++ R.bs] = bState ++ (be8 n ++ R.bs) := by simp [cat]
  have m6 := of_meets [bState, be8 n ++ R.bs] (by simp) (by rw [e3, List.length_append, hrl]; omega)
  rw [e3] at m6
  have hy : topD n R = sha (bState ++ (be8 n ++ R.bs)) := rfl
  rw [← hy] at m6
  generalize topD n R = d at *
  have m5 := bytes_meets (G := Gt) (be8 n ++ R.bs) (by omega)
  clear hy e1 e2 e3
  have n1 : [AV.v (.int .i64 n)] = I64 [n] := rfl
  generalize be8 n ++ R.bs = x at *
  generalize be8 n = x1 at *
  have hx : List.take x.length x = x := List.take_of_length_le (by omega)
  have hx4 : 40 ≤ x.length := by omega
  have hx2 : List.take 40 x = x := List.take_of_length_le (by omega)
  have hB := B_state
  generalize bState = r at *
  have hr : List.take 5 r = r := List.take_of_length_le (by omega)
  simp
  refine call_intro m1 ?_ ?_
  · simp [wrM, n1]
  simp [wrM]
  refine call_intro m2 ?_ ?_
  · simp [wrM, Dgs_1]
  simp [wrM]
  refine call_intro m5 ?_ ?_
  · simp [wrM]
  simp [wrM, hxl]
  refine call_intro m6 ?_ ?_
  · simp [Bss, hB, hx, hx2, hr, hx4]
  simp
  refine post_end (.inr rfl) ?_
  simp
/-- The one piece of bytes that fit into one. -/
def pc1 (bs : Bytes) : Piece := ⟨0, 1, leafD bs, bs, []⟩
theorem pcs_one {bs : Bytes} (h0 : bs ≠ []) (h : bs.length ≤ 256) : chunks bs = [bs] ∧ pcsOf (chunks bs) = [pc1 bs] := by
  have hl := List.length_pos_iff.2 h0
  have hc : cntC bs.length = 1 := by unfold cntC; omega
  have e : chunks bs = [bs] := by
    unfold chunks
    rw [hc]
    simp [chA]
    exact List.take_of_length_le h
  refine ⟨e, ?_⟩
  rw [e]
  simp [pcsOf, pc1, rootD_one, pathD_end]
theorem check1_meets (bs : Bytes) (h : bs.length ≤ 1000000) : Meets Tryd.prog Gt fn_chunk_Check [dv (topD 1 (leafD bs)), (pc1 bs).av] [] true (.v (.bool true)) [] := by
  refine meets_of_go mix k_chunk_Check ⟨by simp, by simp, by simp⟩ ?_
  have m1 := top_meets 1 (leafD bs)
  have m2 := leaf_meets bs h
  have m3 := checkP_meets (leafD bs) (leafD bs) 0 1 [] (by omega) (by omega)
  rw [checkD_end _ _ _ _ _ (by omega)] at m3
  have hav : (pc1 bs).av = .node [.v (.int .i64 0), .v (.int .i64 1), dv (leafD bs), .v (.string (mkS bs)), .sl 32 (Dgs [])] := rfl
  rw [hav]
  generalize topD 1 (leafD bs) = t at *
  generalize leafD bs = R at *
  simp at m3
  have f1 : bs.length ≤ maxLen := by simp only [maxLen]; omega
  simp
  refine call_intro m1 ?_ ?_
  · simp
  simp [f1]
  refine call_intro m2 ?_ ?_
  · simp
  simp
  refine call_intro m3 ?_ ?_
  · simp
  simp
  refine post_end (.inr rfl) ?_
  simp
/-- A map of one entry, or of none. -/
def mE1 (bs : Bytes) : Nat → List AV
  | 0 => []
  | _ + 1 => [entA (.v (.int .i64 0)) (.v (.string (mkS bs))) 0]
def cE1 (bs : Bytes) : Nat → Bytes
  | 0 => []
  | _ + 1 => bs
theorem join1_meets (bs : Bytes) (h : bs.length ≤ 1000000) (hok : stOk bs = true) : Meets Tryd.prog Gt fn_chunk_Join [dv (topD 1 (leafD bs)), .sl 36 (Pcs [pc1 bs])] [] false (.tup [(stOf bs).av, .v (.int .i64 0)]) [] := by
  refine meets_of_go mix k_chunk_Join ⟨by simp, by simp, by simp⟩ ?_
  have m1 := check1_meets bs h
  have m2 := cstate_meets (G := Gt) bs (by omega) hok
  have hw1 : IntKind.i64.wrap 1 = 1 := w64_id (by omega)
  have hPcs : Pcs [pc1 bs] = [(pc1 bs).av] := rfl
  have hav : (pc1 bs).av = .node [.v (.int .i64 0), .v (.int .i64 1), dv (leafD bs), .v (.string (mkS bs)), .sl 32 (Dgs [])] := rfl
  rw [hPcs]
  rw [hav] at m1 ⊢
  generalize topD 1 (leafD bs) = t at *
  generalize leafD bs = R at *
  generalize stOf bs = S at *
  simp
  refine go_up 1 (fun j (_ : Unit) => True) (fun j _ c => ⟨[(2, .ptr 2 c 0), (4, .ptr 4 c 0), (6, .oref 12 c true), (7, .v (.int .i64 (j : Nat))), (13, .sl 36 [.node [.v (.int .i64 0), .v (.int .i64 1), dv R, .v (.string (mkS bs)), .sl 32 (Dgs [])]]), (14, .v (.int .i64 1)), (15, .v (.int .i64 (j : Nat)))],
    [(2, .var c (dv t)), (4, .var c Sta.zero.av), (12, .ob c (.map false 1 false 1) (.node [.node (mE1 bs j), .v (.int .i64 (j : Nat))]))], c + 1⟩) () _ (Weak.re (by simp [mE1, Sta.zero, Sta.av, Conf.av, Conf.zero])) trivial ?_ ?_
  · intro j _ c hj _
    obtain rfl : j = 0 := by omega
    have hcs : cmpA (Sh.int .i64) (.v (.int .i64 0)) (.v (.int .i64 0)) = some true := by simp [cmpA]
    simp
    refine call_intro m1 ?_ ?_
    · simp
    simp [mE1, hcs]
    exact ⟨(), _, Weak.re (by simp [mE1, hw1]), trivial⟩
  · intro _ c _
    have f1 : bs.length ≤ maxLen := by simp only [maxLen]; omega
    have hcs : cmpA (Sh.int .i64) (.v (.int .i64 0)) (.v (.int .i64 0)) = some true := by simp [cmpA]
    simp [mE1]
    refine go_up 1 (fun j (_ : Unit) => True) (fun j _ c => ⟨[(4, .ptr 4 c 0), (6, .oref 12 c true), (10, .row 10 1 c 0 (cE1 bs j).length), (39, .v (.int .i64 1)), (40, .v (.int .i64 (j : Nat)))],
      [(4, .var c Sta.zero.av), (10, .rows c 1 (B (cE1 bs j))), (12, .ob c (.map false 1 false 1) (.node [.node (mE1 bs 1), .v (.int .i64 1)]))], c + 1⟩) () _ (Weak.re (by simp [mE1, cE1])) trivial ?_ ?_
    · intro j _ c hj _
      obtain rfl : j = 0 := by omega
      have f2 : fitsB bs.length 1 := fits (by omega) (by omega)
      simp [mE1, cE1, hcs, f1, f2]
      exact ⟨(), _, Weak.re (by simp [mE1, hw1]), trivial⟩
    · intro _ c _
      simp [cE1]
      refine call_intro m2 ?_ ?_
      · simp
      simp
      refine post_end (.inr rfl) ?_
      simp
end Go.Proofs.YtbmdaaehogpeeaaDoor.WL

end
section
/-
  CHAPTER 10: how great a state is.
-/
namespace Go.Proofs.YtbmdaaehogpeeaaDoor.WL
open Go
set_option maxHeartbeats 8000000
variable {G : Nat → Option AV}

def sumP (ps : List Pr) : Nat := (ps.map fun p => 1 + p.key.length + p.val.length).sum
def sumV (vs : List Bytes) : Nat := (vs.map fun v => 1 + v.length).sum
def sumR (rs : List Rep) : Nat := (rs.map fun a => sumV a.vals).sum
theorem sumP_take (ps : List Pr) {j : Nat} (h : j < ps.length) : sumP (ps.take (j + 1)) = sumP (ps.take j) + (1 + ps[j].key.length + ps[j].val.length) := by
  unfold sumP
  rw [← List.take_append_getElem h, List.map_append, List.sum_append]
  simp
theorem sumV_take (ps : List Bytes) {j : Nat} (h : j < ps.length) : sumV (ps.take (j + 1)) = sumV (ps.take j) + (1 + ps[j].length) := by
  unfold sumV
  rw [← List.take_append_getElem h, List.map_append, List.sum_append]
  simp
theorem sumR_take (ps : List Rep) {j : Nat} (h : j < ps.length) : sumR (ps.take (j + 1)) = sumR (ps.take j) + sumV ps[j].vals := by
  unfold sumR
  rw [← List.take_append_getElem h, List.map_append, List.sum_append]
  simp
theorem sumP_le (ps : List Pr) (j : Nat) : sumP (ps.take j) ≤ sumP ps := by
  have h : sumP (ps.take j ++ ps.drop j) = sumP (ps.take j) + sumP (ps.drop j) := by unfold sumP; rw [List.map_append, List.sum_append]
  rw [List.take_append_drop] at h
  omega
theorem sumV_le (ps : List Bytes) (j : Nat) : sumV (ps.take j) ≤ sumV ps := by
  have h : sumV (ps.take j ++ ps.drop j) = sumV (ps.take j) + sumV (ps.drop j) := by unfold sumV; rw [List.map_append, List.sum_append]
  rw [List.take_append_drop] at h
  omega
theorem sumR_le (ps : List Rep) (j : Nat) : sumR (ps.take j) ≤ sumR ps := by
  have h : sumR (ps.take j ++ ps.drop j) = sumR (ps.take j) + sumR (ps.drop j) := by unfold sumR; rw [List.map_append, List.sum_append]
  rw [List.take_append_drop] at h
  omega
def Sta.great (s : Sta) : Bool := decide (300 < s.pairs.length) || decide (100 < s.reps.length) || decide (20 < s.conf.ms.length) || (s.reps.any fun a => decide (300 < a.vals.length)) || decide (4096 < sumP s.pairs + sumR s.reps)
structure Sta.Fin (s : Sta) : Prop where
  ps : ∀ p ∈ s.pairs, p.key.length ≤ reachBytes ∧ p.val.length ≤ reachBytes
  rs : ∀ a ∈ s.reps, ∀ v ∈ a.vals, v.length ≤ reachBytes
theorem great10_meets (s : Sta) (hf : s.Fin) : Meets Tryd.prog G fn_r10_Great [s.av, .v (.int .i64 4096)] [] true (.v (.bool s.great)) [] := by
  refine meets_of_go mix k_r10_Great ⟨by simp, by simp, by simp⟩ ?_
  obtain ⟨hp, hr⟩ := hf
  have hg : s.great = (decide (300 < s.pairs.length) || decide (100 < s.reps.length) || decide (20 < s.conf.ms.length) || (s.reps.any fun a => decide (300 < a.vals.length)) || decide (4096 < sumP s.pairs + sumR s.reps)) := rfl
  have hav : s.av = .node [.sl 2 (Prs s.pairs), .sl 4 (Rps s.reps), .node [.v (.int .i64 s.conf.epoch), .sl 34 (Mems s.conf.ms)]] := rfl
  rw [hav]
  generalize s.great = g at *
  generalize s.pairs = ps at *
  generalize s.reps = rs at *
  generalize s.conf.ms = ms at *
  generalize s.conf.epoch = ep at *
  clear hav
  by_cases c1 : (300 : Int) < (ps.length : Nat)
  · have : g = true := by rw [hg]; simp [show 300 < ps.length by omega]
    simp [c1]
    refine post_end (.inr rfl) ?_
    simp [this]
  by_cases c2 : (100 : Int) < (rs.length : Nat)
  · have : g = true := by rw [hg]; simp [show 100 < rs.length by omega]
    simp [c1, c2]
    refine post_end (.inr rfl) ?_
    simp [this]
  by_cases c3 : (20 : Int) < (ms.length : Nat)
  · have : g = true := by rw [hg]; simp [show 20 < ms.length by omega]
    simp [c1, c2, c3]
    refine post_end (.inr rfl) ?_
    simp [this]
  have hyes : 4096 < sumP ps + sumR rs → g = true := fun h => by rw [hg]; simp [h]
  have hyes2 : (∃ a ∈ rs, 300 < a.vals.length) → g = true := fun ⟨a, ha, h⟩ => by
    have : (rs.any fun a => decide (300 < a.vals.length)) = true := List.any_eq_true.2 ⟨a, ha, by simpa using h⟩
    rw [hg, this]
    simp
  have hno : sumP ps + sumR rs ≤ 4096 → (∀ a ∈ rs, ¬ 300 < a.vals.length) → g = false := fun h h2 => by
    have : (rs.any fun a => decide (300 < a.vals.length)) = false := List.any_eq_false.2 fun a ha => by simpa using h2 a ha
    rw [hg, this]
    simp
    omega
  clear hg
  simp [c1, c2, c3]
  refine go_up ps.length (fun j (n : Nat) => n = sumP (ps.take j) ∧ n ≤ 4096) (fun j n c => ⟨[(1, .v (.int .i64 4096)), (2, .ptr 2 c 0), (5, .v (.int .i64 (n : Nat))), (30, .sl 2 (Prs ps)), (31, .v (.int .i64 (ps.length : Nat))), (32, .v (.int .i64 (j : Nat)))],
    [(2, .var c (.node [.sl 2 (Prs ps), .sl 4 (Rps rs), .node [.v (.int .i64 ep), .sl 34 (Mems ms)]]))], c + 1⟩) 0 _ (Weak.re (by simp)) (by simp [sumP]) ?_ ?_
  · rintro j n c hj ⟨hn, hn2⟩
    have hw : IntKind.i64.wrap ((j : Int) + 1) = ((j + 1 : Nat) : Int) := w64_succ (by omega)
    have hs := sumP_take ps hj
    rw [← hn] at hs
    have hle := sumP_le ps (j + 1)
    obtain ⟨q1, q2⟩ := hp ps[j] (List.getElem_mem hj)
    unfold reachBytes at q1 q2
    obtain ⟨x, hx⟩ : ∃ x, ps[j].key.length = x := ⟨_, rfl⟩
    obtain ⟨y, hy⟩ : ∃ y, ps[j].val.length = y := ⟨_, rfl⟩
    rw [hx] at hs q1
    rw [hy] at hs q2
    obtain ⟨m, hm⟩ : ∃ m, m = n + 1 + x + y := ⟨_, rfl⟩
    have w1 : IntKind.i64.wrap ((n : Int) + 1) = (n : Int) + 1 := w64_id (by omega)
    have w2 : IntKind.i64.wrap ((n : Int) + 1 + (x : Int)) = (n : Int) + 1 + (x : Int) := w64_id (by omega)
    have w3 : IntKind.i64.wrap ((n : Int) + 1 + (x : Int) + (y : Int)) = (m : Int) := by rw [w64_id (by omega)]; omega
    by_cases d : (4096 : Int) < (m : Int)
    · have hgt := hyes (by omega)
      simp [hj, prA, hx, hy, w1, w2, w3, d]
      refine post_end (.inr rfl) ?_
      simp [hgt]
    · simp [hj, prA, hx, hy, w1, w2, w3, d, hw]
      exact ⟨m, _, Weak.re (by simp), by omega, by omega⟩
  · rintro n c ⟨hn, hn2⟩
    rw [List.take_length] at hn
    simp
    refine go_up rs.length (fun j (k : Nat) => k = n + sumR (rs.take j) ∧ k ≤ 4096 ∧ ∀ i (h : i < rs.length), i < j → ¬ 300 < rs[i].vals.length) (fun j k c => ⟨[(1, .v (.int .i64 4096)), (5, .v (.int .i64 (k : Nat))), (51, .sl 4 (Rps rs)), (52, .v (.int .i64 (rs.length : Nat))), (53, .v (.int .i64 (j : Nat)))],
      [], c + 1⟩) n _ (Weak.re (by simp)) ⟨by simp [sumR], hn2, by intro i _ h; omega⟩ ?_ ?_
    · rintro j k c hj ⟨hk, hk2, hk3⟩
      have hw : IntKind.i64.wrap ((j : Int) + 1) = ((j + 1 : Nat) : Int) := w64_succ (by omega)
      have hs := sumR_take rs hj
      have hle := sumR_le rs (j + 1)
      obtain ⟨vs, hvs⟩ : ∃ vs, rs[j].vals = vs := ⟨_, rfl⟩
      have hrv := hr rs[j] (List.getElem_mem hj)
      rw [hvs] at hrv hs
      by_cases c4 : (300 : Int) < (vs.length : Nat)
      · have hgt := hyes2 ⟨rs[j], List.getElem_mem hj, by rw [hvs]; omega⟩
        simp [hj, Rep.avS, hvs, c4]
        refine post_end (.inr rfl) ?_
        simp [hgt]
      simp [hj, Rep.avS, hvs, c4]
      refine go_up vs.length (fun i (z : Nat) => z = k + sumV (vs.take i) ∧ z ≤ 4096) (fun i z c => ⟨[(1, .v (.int .i64 4096)), (5, .v (.int .i64 (z : Nat))), (51, .sl 4 (Rps rs)), (52, .v (.int .i64 (rs.length : Nat))), (53, .v (.int .i64 (j : Nat))), (62, .sl 1 (Strs vs)), (63, .v (.int .i64 (vs.length : Nat))), (64, .v (.int .i64 (i : Nat)))],
        [], c + 1⟩) k _ (Weak.re (by simp)) ⟨by simp [sumV], hk2⟩ ?_ ?_
      · rintro i z c hi ⟨hz, hz2⟩
        have hwi : IntKind.i64.wrap ((i : Int) + 1) = ((i + 1 : Nat) : Int) := w64_succ (by omega)
        have hsi := sumV_take vs hi
        have hlei := sumV_le vs (i + 1)
        have hri := hrv vs[i] (List.getElem_mem hi)
        unfold reachBytes at hri
        obtain ⟨x, hx⟩ : ∃ x, vs[i].length = x := ⟨_, rfl⟩
        rw [hx] at hsi hri
        obtain ⟨m, hm⟩ : ∃ m, m = z + 1 + x := ⟨_, rfl⟩
        have w1 : IntKind.i64.wrap ((z : Int) + 1) = (z : Int) + 1 := w64_id (by omega)
        have w2 : IntKind.i64.wrap ((z : Int) + 1 + (x : Int)) = (m : Int) := by rw [w64_id (by omega)]; omega
        by_cases d : (4096 : Int) < (m : Int)
        · have hgt := hyes (by omega)
          simp [hi, hx, w1, w2, d]
          refine post_end (.inr rfl) ?_
          simp [hgt]
        · simp [hi, hx, w1, w2, d, hwi]
          exact ⟨m, _, Weak.re (by simp), by omega, by omega⟩
      · rintro z c ⟨hz, hz2⟩
        rw [List.take_length] at hz
        simp [hw]
        refine ⟨z, _, Weak.re (by simp), by omega, hz2, ?_⟩
        intro i hi hij
        rcases (show i < j ∨ i = j by omega) with h | rfl
        · have := hk3 i hi h
          omega
        · rw [hvs]; omega
    · rintro k c ⟨hk, hk2, hk3⟩
      rw [List.take_length] at hk
      have hgf := hno (by omega) (fun a ha => by
        obtain ⟨i, hi, rfl⟩ := List.getElem_of_mem ha
        exact hk3 i hi hi)
      simp
      refine post_end (.inr rfl) ?_
      simp [hgf]
theorem sumP_bytes (ps : List Pr) : (prsB ps).length ≤ 8 * sumP ps := by
  induction ps with
  | nil => simp [prsB, sumP]
  | cons p ps ih =>
    have e : prsB (p :: ps) = prB p ++ prsB ps := by simp [prsB]
    have e2 : sumP (p :: ps) = 1 + p.key.length + p.val.length + sumP ps := by simp [sumP]
    have := txt_le p.key
    have := txt_le p.val
    rw [e, e2, List.length_append, prB, List.length_append]
    omega
theorem sumV_bytes (vs : List Bytes) : (txts vs).length ≤ 4 * sumV vs := by
  induction vs with
  | nil => simp [txts, sumV]
  | cons v vs ih =>
    have e : txts (v :: vs) = txt v ++ txts vs := by simp [txts]
    have e2 : sumV (v :: vs) = 1 + v.length + sumV vs := by simp [sumV]
    have := txt_le v
    rw [e, e2, List.length_append]
    omega
theorem sumR_bytes (rs : List Rep) : (rpsB rs).length ≤ 32 * rs.length + 4 * sumR rs := by
  induction rs with
  | nil => simp [rpsB, sumR]
  | cons a rs ih =>
    have e : rpsB (a :: rs) = a.bytes ++ rpsB rs := by simp [rpsB]
    have e2 : sumR (a :: rs) = sumV a.vals + sumR rs := by simp [sumR]
    have e3 : a.bytes.length = 32 + (txts a.vals).length := by simp [Rep.bytes, nums_length]
    have := sumV_bytes a.vals
    rw [e, e2, List.length_append, List.length_cons, e3]
    omega
theorem great_no {s : Sta} (h : s.great = false) : s.Sm ∧ s.bytes.length ≤ 50000 ∧ ∀ p ∈ s.pairs, p.key.length < 4294967296 ∧ p.val.length < 4294967296 := by
  simp only [Sta.great, Bool.or_eq_false_iff, decide_eq_false_iff_not] at h
  obtain ⟨⟨⟨⟨h1, h2⟩, h3⟩, h4⟩, h5⟩ := h
  have hl := s.bytes_len
  have hc : s.conf.bytes.length = 16 + 48 * s.conf.ms.length := by simp [Conf.bytes, nums_length, memsB_len]
  have b1 := sumP_bytes s.pairs
  have b2 := sumR_bytes s.reps
  have hb : s.bytes.length ≤ 50000 := by omega
  refine ⟨⟨by omega, by omega, by omega, fun a ha => ?_, by omega⟩, hb, fun p hp => ?_⟩
  · have := List.any_eq_false.1 h4 a ha
    simp only [decide_eq_true_eq] at this
    omega
  · obtain ⟨j, hj, rfl⟩ := List.getElem_of_mem hp
    have := sumP_take s.pairs hj
    have := sumP_le s.pairs (j + 1)
    omega
end Go.Proofs.YtbmdaaehogpeeaaDoor.WL

end
