/- Texts put together: L11a, T02, T18. -/
import Derived.Test.YtbmdaaehogpeeaaDoorWm10
import Derived.Test.YtbmdaaehogpeeaaDoorRows
import Derived.ProofKit
import Derived.LaidMore
import Derived.Lib.LaidTab
section
/-
  CHAPTER 11: the pieces, one behind the other, are the bytes.
-/
namespace Go.Proofs.YtbmdaaehogpeeaaDoor.WL
open Go
set_option maxHeartbeats 8000000
attribute [local irreducible] comp hb sha leafD pairD

theorem piecesF_meets (s : Sta) (h : s.Sm) : Meets Tryd.prog Gt fn_chunk_Pieces [s.av] [] false (.sl 36 (Pcs (pcsOf (chunks s.bytes)))) [] := by
  refine (pieces_meets s h).freeze ⟨by simp, by simp, by simp⟩ ?_
  have hl := pcsOf_length (chunks s.bytes)
  generalize pcsOf (chunks s.bytes) = qs at *
  generalize chunks s.bytes = ps at *
  have ht : qs.take ps.length = qs := List.take_of_length_le (by omega)
  have hle : ps.length ≤ qs.length := by omega
  simp [ht, hle]
theorem root1_meets (s : Sta) (h : s.Sm) (hl : s.bytes.length ≤ 256) : Meets Tryd.prog Gt fn_chunk_Root [s.av] [] true (dv (topD 1 (leafD s.bytes))) [] := by
  refine meets_of_go mix k_chunk_Root ⟨by simp, by simp, by simp⟩ ?_
  have hsl := s.bytes_len
  have hne : s.bytes ≠ [] := fun e => by rw [e] at hsl; simp at hsl; omega
  have m1 := cbytesF_meets s h
  have m2 := parts_meets (G := Gt) s.bytes hne (by omega)
  rw [(pcs_one hne hl).1] at m2
  have m3 := leavesF_meets [s.bytes] (by simp) (by simp; omega)
  have m5 := root_meets [leafD s.bytes] (by simp)
  rw [rootD_one] at m5
  have m6 := top_meets 1 (leafD s.bytes)
  generalize topD 1 (leafD s.bytes) = t at *
  simp only [List.map_cons, List.map_nil] at m3
  generalize leafD s.bytes = R at *
  generalize s.bytes = bs at *
  simp
  refine call_intro m1 ?_ ?_
  · simp
  simp
  refine call_intro m2 ?_ ?_
  · simp
  simp
  refine call_intro m3 ?_ ?_
  · simp
  simp
  refine call_intro m5 ?_ ?_
  · simp
  simp
  refine call_intro m6 ?_ ?_
  · simp
  simp
  refine post_end (.inr rfl) ?_
  simp
def one11 : Sta := ⟨[], [], ⟨0, [⟨1, Dg.zero, 0⟩]⟩⟩
theorem one11_meets : Meets Tryd.prog Gt fn_l11_one [] [] false one11.av [] := by
  refine meets_of_go mix k_l11_one ⟨by simp, by simp, by simp⟩ ?_
  simp
  refine post_end (.inr rfl) ?_
  simp [one11, Sta.av, Conf.av, Mems, Mem.av, dv]
theorem one11_good : stF.good one11 := by
  simp [one11, stF, confF, zeroF, mapF, seqF, cntF, inF, repF, repG, memF, dgF, W64, lastId]
theorem one11_len : one11.bytes.length = 80 := by
  rw [Sta.bytes_len]
  simp [one11, Conf.bytes, nums_length, memsB_len, prsB, rpsB]
theorem one11_sm : one11.Sm := ⟨by simp [one11], by simp [one11], by simp [one11], by simp [one11], by rw [one11_len]; omega⟩
theorem one11_back : stOk one11.bytes = true ∧ stOf one11.bytes = one11 := by
  have b5 := stF_law.back [] [] one11 one11_good
  have hw : stF.wr one11 = one11.bytes := stF_wr one11
  rw [hw, List.append_nil] at b5
  have h5 : stF.rd (Rd.of one11.bytes) = one11 := b5.1
  have h6 : stF.rd' (Rd.of one11.bytes) = ⟨[] ++ one11.bytes, [], false⟩ := b5.2
  refine ⟨?_, h5⟩
  show ((stF.rd' (Rd.of one11.bytes)).done && (stF.rd (Rd.of one11.bytes)).rises) = true
  rw [h5, h6]
  simp [Rd.done, one11, Sta.rises]
theorem alive11_meets : Meets Tryd.prog Gt fn_l11_alive [] [] true (.v (.bool true)) [] := by
  refine meets_of_go mix k_l11_alive ⟨by simp, by simp, by simp⟩ ?_
  have hl := one11_len
  have hne : one11.bytes ≠ [] := fun e => by rw [e] at hl; simp at hl
  have m1 := one11_meets
  have m2 := piecesF_meets one11 one11_sm
  rw [(pcs_one hne (by omega)).2] at m2
  have m3 := root1_meets one11 one11_sm (by omega)
  have m4 := join1_meets one11.bytes (by omega) one11_back.1
  rw [one11_back.2] at m4
  have m5 := cbytesF_meets one11 one11_sm
  have ho : one11.av = .node [.sl 2 [], .sl 4 [], .node [.v (.int .i64 0), .sl 34 [.node [.v (.int .i64 1), .node [.arr 1 (B Dg.zero.bs), .v (.int .i64 0)]]]]] := rfl
  have hPcs : Pcs [pc1 one11.bytes] = [(pc1 one11.bytes).av] := rfl
  rw [hPcs] at m2 m4
  generalize topD 1 (leafD one11.bytes) = t at *
  generalize one11.bytes = bs at *
  simp
  refine call_intro m1 ?_ ?_
  · simp
  simp
  refine call_intro m2 ?_ ?_
  · simp
  simp
  refine call_intro m1 ?_ ?_
  · simp
  simp
  refine call_intro m3 ?_ ?_
  · simp
  simp
  refine call_intro m4 ?_ ?_
  · simp
  simp
  refine call_intro m1 ?_ ?_
  · simp
  simp
  refine call_intro m5 ?_ ?_
  · simp
  simp [hl, ho]
  refine post_end (.inr rfl) ?_
  simp
def accC (ps : List Bytes) (j : Nat) : Bytes := (ps.take j).flatten
theorem accC_succ (ps : List Bytes) (j : Nat) (h : j < ps.length) : accC ps (j + 1) = accC ps j ++ ps[j] := by
  unfold accC
  rw [List.take_add_one, List.getElem?_eq_getElem h, List.flatten_append]
  congr 1
  exact List.append_nil _
theorem chunks_take (bs : Bytes) : ∀ n : Nat, ((List.range n).map (chA bs)).flatten = bs.take (256 * n)
  | 0 => by simp
  | n + 1 => by
    rw [List.range_succ, List.map_append, List.flatten_append, chunks_take bs n, List.map_singleton, List.flatten_singleton, show 256 * (n + 1) = 256 * n + 256 by omega, List.take_add]
    rfl
theorem chunks_all (bs : Bytes) : accC (chunks bs) (chunks bs).length = bs := by
  unfold accC
  rw [List.take_length]
  unfold chunks
  rw [chunks_take, List.take_of_length_le]
  unfold cntC
  omega
theorem chunks_full (bs : Bytes) (j : Nat) (h : j < (chunks bs).length) : ((chunks bs)[j]).length ≤ 256 ∧ (j + 1 < (chunks bs).length → ((chunks bs)[j]).length = 256) := by
  have e : (chunks bs)[j] = chA bs j := by simp [chunks]
  rw [e, chA_len]
  rw [chunks_length] at *
  unfold cntC
  omega
theorem accC_len (ps : List Bytes) (j : Nat) (h : j ≤ ps.length) : (accC ps j).length ≤ (accC ps ps.length).length := by
  have e : accC ps ps.length = accC ps j ++ (ps.drop j).flatten := by
    unfold accC
    rw [List.take_length, ← List.flatten_append, List.take_append_drop]
  rw [e, List.length_append]
  omega
theorem walk_ChunkParts (s : Sta) (hf : s.Fin) : Meets Tryd.prog Gt fn_l11_ChunkParts [s.av] [] true (.v (.bool true)) [] := by
  refine meets_of_go mix k_l11_ChunkParts ⟨by simp, by simp, by simp⟩ ?_
  have m1 := alive11_meets
  have m2 := great10_meets (G := Gt) s hf
  cases hg : s.great with
  | true =>
    rw [hg] at m2
    simp
    refine call_intro m1 ?_ ?_
    · simp
    simp
    refine call_intro m2 ?_ ?_
    · simp
    simp
    refine post_end (.inr rfl) ?_
    simp
  | false =>
  rw [hg] at m2
  obtain ⟨sm, hb, _⟩ := great_no hg
  have hsl := s.bytes_len
  have hne : s.bytes ≠ [] := fun e => by rw [e] at hsl; simp at hsl; omega
  have m3 := piecesF_meets s sm
  have m4 := cbytesF_meets s sm
  obtain ⟨k1, k2⟩ := chunks_fit (bs := s.bytes) (by omega)
  have hfull := chunks_full s.bytes
  have hall := chunks_all s.bytes
  have hn0 : 0 < (chunks s.bytes).length := by
    have := List.length_pos_iff.2 hne
    rw [chunks_length]
    unfold cntC
    omega
  generalize s.bytes = bs at *
  generalize chunks bs = ps at *
  have hql := pcsOf_length ps
  have hqg : ∀ (j : Nat) (h : j < ps.length), (pcsOf ps)[j]? = some ⟨(j : Nat), (ps.length : Nat), rootD (ps.map leafD), ps[j], pathD (ps.map leafD) j⟩ := fun j h => by
    rw [List.getElem?_eq_getElem (by omega), pcsOf_get ps j h]
  generalize pcsOf ps = qs at *
  have hn0i : (0 : Int) < (ps.length : Nat) := by omega
  have hne0 : ¬ ps.length = 0 := by omega
  simp
  refine call_intro m1 ?_ ?_
  · simp
  simp
  refine call_intro m2 ?_ ?_
  · simp
  simp
  refine call_intro m3 ?_ ?_
  · simp
  simp [hql]
  refine go_up ps.length (fun j (_ : Unit) => True) (fun j _ c => ⟨[(1, .ptr 1 c 0), (3, .v (.string (mkS (accC ps j)))), (4, .sl 36 (Pcs qs)), (13, .sl 36 (Pcs qs)), (14, .v (.int .i64 (ps.length : Nat))), (15, .v (.int .i64 (j : Nat)))], [(1, .var c s.av)], c + 1⟩) () _ (Weak.re (by simp [accC])) trivial ?_ ?_
  · intro j _ c hj _
    have hw : IntKind.i64.wrap ((j : Int) + 1) = ((j + 1 : Nat) : Int) := w64_succ (by omega)
    have hjq : j < qs.length := by omega
    have hg := hqg j hj
    rw [List.getElem?_eq_getElem hjq, Option.some.injEq] at hg
    obtain ⟨f1, f2⟩ := hfull j hj
    have hacc := accC_succ ps j hj
    have hal := accC_len ps (j + 1) (by omega)
    rw [hall, hacc, List.length_append] at hal
    have hav : (qs[j]).av = .node [.v (.int .i64 (j : Nat)), .v (.int .i64 (ps.length : Nat)), dv (rootD (ps.map leafD)), .v (.string (mkS ps[j])), .sl 32 (Dgs (pathD (ps.map leafD) j))] := by rw [hg]; rfl
    generalize pathD (ps.map leafD) j = pth at *
    generalize rootD (ps.map leafD) = R at *
    generalize ps[j] = p at *
    have hmx : (accC ps j).length + p.length ≤ 9223372036854775807 := by omega
    by_cases h1 : j + 1 < ps.length
    · have h2 := f2 h1
      have c1 : (j : Int) + 1 < (ps.length : Nat) := by omega
      rw [h2] at hmx
      simp [hj, hjq, hql, hav, hw, c1, h2, hmx]
      exact ⟨(), _, Weak.re (by simp [hacc]), trivial⟩
    · have c1 : ¬ (j : Int) + 1 < (ps.length : Nat) := by omega
      have c2 : ¬ (256 : Int) < (p.length : Nat) := by omega
      simp [hj, hjq, hql, hav, hw, c1, c2, hmx]
      exact ⟨(), _, Weak.re (by simp [hacc]), trivial⟩
  · intro _ c _
    simp
    refine call_intro m4 ?_ ?_
    · simp
    simp [hql, hall, hn0, hne0, hn0i]
    refine post_end (.inr rfl) ?_
    simp
end Go.Proofs.YtbmdaaehogpeeaaDoor.WL

end
section
/-
  CHAPTER 02: what the row's condition gives the walks: the table in the program's variable.
-/
namespace Go.Proofs.YtbmdaaehogpeeaaDoor.WL
open Go

theorem gTable : Tryd.prog.globalNamed "wapentake/sha.table" = some 0 := by kernel_rfl
def tableZ : List Int := table.map w32
theorem laid_eq {H : Type} : (Rows.laid_wapentake_sha_table : DataW H) = Lib.tabData .u32 tableZ := rfl
theorem Es_ints {C : Ctx} : ∀ ws : List UInt32, Es C 1 (U ws) (ws.map fun z => Value.int .u32 (w32 z))
  | [] => rfl
  | w :: ws => ⟨[_], _, rfl, rfl, ⟨rfl, rfl⟩, Es_ints ws⟩
theorem gr_of_laid {W : World} (h : laidMetH Tryd.prog [("wapentake/sha.table", Rows.laid_wapentake_sha_table)] W) : GR ⟨W, fun k => k < W.heap.size, fun _ => none, fun _ => none, fun g => g = 0⟩ Gt := by
  rw [MakeChecks.laidMetH_plain _ _ _ (by kernel_rfl), laid_eq] at h
  have hT : Lib.TabIs Tryd.prog W "wapentake/sha.table" .u32 tableZ := by
    refine Lib.tabIs_of_head (t := 143) (e := 140) (n := 64) gTable ?_ ?_ ?_ ?_ ?_ h
    · kernel_rfl
    · kernel_rfl
    · kernel_rfl
    · kernel_rfl
    · kernel_rfl
  intro n x hx
  unfold Gt at hx
  split at hx
  · rename_i hn
    subst hn
    cases hx
    refine ⟨by simp [closed, closeds, U, closeds_all], 0, 0, _, rfl, ?_, Es_ints table, ?_⟩
    · have h0 := hT.cell gTable 0 (by decide)
      show 0 < W.heap.size
      rcases Nat.eq_zero_or_pos W.heap.size with h1 | h1
      · simp [World.cell?, Array.getElem?_eq_none (Nat.le_of_eq h1)] at h0
      · exact h1
    · intro j u hu
      have hj : j < table.length := by
        rcases Nat.lt_or_ge j table.length with h1 | h1
        · exact h1
        · rw [List.getElem?_eq_none (by simpa using h1)] at hu
          cases hu
      have h1 := hT.cell gTable j (by simpa [tableZ] using hj)
      rw [Nat.zero_add, h1]
      simp [List.getElem?_eq_getElem hj] at hu
      rw [← hu]
      simp [tableZ, List.getD_eq_getElem?_getD, List.getElem?_eq_getElem hj]
  · cases hx
end Go.Proofs.YtbmdaaehogpeeaaDoor.WL

end
section
/-
  CHAPTER 18: what comes in.
-/
namespace Go.Proofs.YtbmdaaehogpeeaaDoor.WL
open Go

abbrev Ty.pair : Ty := .st [.str, .str]
theorem ty_pair {a : AV} (h : TyOk Ty.pair a) : ∃ p : Pr, a = prA p ∧ (p.key.length ≤ reachBytes ∧ p.val.length ≤ reachBytes) := by
  obtain ⟨a1, a2, rfl, h1, h2⟩ := ty_st2 h
  obtain ⟨x, rfl, w1⟩ := ty_str h1
  obtain ⟨y, rfl, w2⟩ := ty_str h2
  exact ⟨⟨x, y⟩, rfl, w1, w2⟩
abbrev Ty.state : Ty := .st [.sl 2 32 Ty.pair, .sl 4 48 Ty.rep, Ty.conf]
theorem ty_state {a : AV} (h : TyOk Ty.state a) : ∃ s : Sta, a = s.av ∧ s.Fin := by
  obtain ⟨a1, a2, a3, rfl, h1, h2, h3⟩ := ty_st3 h
  obtain ⟨ps, rfl, _, hp⟩ := ty_list (fun _ => ty_pair) h1
  obtain ⟨rs, rfl, _, hr⟩ := ty_list (f := Rep.avS) (fun _ => ty_rep) h2
  obtain ⟨c, rfl, _⟩ := ty_conf h3
  exact ⟨⟨ps, rs, c⟩, rfl, hp, fun a ha => (hr a ha).2⟩
end Go.Proofs.YtbmdaaehogpeeaaDoor.WL

end
