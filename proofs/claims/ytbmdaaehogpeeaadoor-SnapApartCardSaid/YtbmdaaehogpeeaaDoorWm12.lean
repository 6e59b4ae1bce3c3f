/- Texts put together: S18j, L18a, T02, T18. -/
import Derived.Test.YtbmdaaehogpeeaaDoorWm11
import Derived.Test.YtbmdaaehogpeeaaDoorRows
import Derived.ProofKit
import Derived.LaidMore
import Derived.Lib.LaidTab
section
/-
  CHAPTER 18: Save and Load.
-/
namespace Go.Proofs.YtbmdaaehogpeeaaDoor.WL
open Go
set_option maxHeartbeats 8000000
variable {G : Nat → Option AV}
attribute [local irreducible] comp hb sha

def one18 : Snp := ⟨3, Dg.zero, ⟨[], [], ⟨0, [⟨1, Dg.zero, 0⟩]⟩⟩⟩
theorem one18_meets : Meets Tryd.prog G fn_l18_one [] [] false one18.av [] := by
  refine meets_of_go mix k_l18_one ⟨by simp, by simp, by simp⟩ ?_
  simp
  refine post_end (.inr rfl) ?_
  simp [one18, Snp.av, Sta.av, Conf.av, Mems, Mem.av, dv]
theorem save_0 (n : Bytes) (s : Snp) (h : s.st.Sm) (hl : s.bytes.length ≤ 1000000) (a : Int) (ha : 0 ≤ a ∧ a ≤ 1000) : Meets Tryd.prog Gt fn_snap_Save [.ptr 1000 0 0, .v (.string (mkS n)), s.av] (dkM 0 [] ⟨[], false, a, 0, 0⟩) true (.v (.int .i64 0)) (dkM 1 [0] ⟨[⟨n, s.bytes, []⟩], false, a + 1, 0, 0⟩) := by
  refine meets_of_go mix k_snap_Save ⟨by simp [dkM], by simp [dkM], by simp [dkM]⟩ ?_
  have m1 := snbytes_meets s h
  have m2 := ins_ok0_0 (G := Gt) n s.bytes a 0 0 (by omega) (by omega) (by omega)
  have hfz : fz 0 = 0 := rfl
  rw [hfz] at m2
  generalize s.bytes = b at *
  simp [dkM]
  refine call_intro m1 ?_ ?_
  · simp
  simp
  refine call_intro m2 ?_ ?_
  · simp [dkM]
  simp [dkM]
  refine post_end (.inr rfl) ?_
  simp [dkM]
theorem save_1 (f : Fl) (n : Bytes) (hne : n ≠ f.name) (s : Snp) (h : s.st.Sm) (hl : f.size + s.bytes.length ≤ 1000000) (a : Int) (ha : 0 ≤ a ∧ a ≤ 1000) : Meets Tryd.prog Gt fn_snap_Save [.ptr 1000 0 0, .v (.string (mkS n)), s.av] (dkM 0 [] ⟨[f], false, a, 0, 0⟩) true (.v (.int .i64 0)) (dkM 1 [1] ⟨[f, ⟨n, s.bytes, []⟩], false, a + 1, 0, 0⟩) := by
  refine meets_of_go mix k_snap_Save ⟨by simp [dkM], by simp [dkM], by simp [dkM]⟩ ?_
  have m1 := snbytes_meets s h
  have m2 := ins_ok1_1 (G := Gt) f n s.bytes hne a 0 0 (by omega) (by omega) (by omega)
  have hfz : fz 0 = 0 := rfl
  rw [hfz] at m2
  generalize s.bytes = b at *
  simp [dkM]
  refine call_intro m1 ?_ ?_
  · simp
  simp
  refine call_intro m2 ?_ ?_
  · simp [dkM]
  simp [dkM]
  refine post_end (.inr rfl) ?_
  simp [dkM]
theorem save_2 (f g : Fl) (s : Snp) (h : s.st.Sm) (hl : f.size + g.size + s.bytes.length ≤ 1000000) (a : Int) (ha : 0 ≤ a ∧ a ≤ 1000) : Meets Tryd.prog Gt fn_snap_Save [.ptr 1000 0 0, .v (.string (mkS f.name)), s.av] (dkM 0 [] ⟨[f, g], false, a, 0, 0⟩) true (.v (.int .i64 0)) (dkM 1 [0] ⟨[⟨f.name, s.bytes, []⟩, g], false, a + 1, 0, 0⟩) := by
  refine meets_of_go mix k_snap_Save ⟨by simp [dkM], by simp [dkM], by simp [dkM]⟩ ?_
  have m1 := snbytes_meets s h
  have m2 := ins_ok2_0 (G := Gt) f g s.bytes a 0 0 (by omega) (by omega) (by omega)
  have hfz : fz 0 = 0 := rfl
  rw [hfz] at m2
  generalize s.bytes = b at *
  simp [dkM]
  refine call_intro m1 ?_ ?_
  · simp
  simp
  refine call_intro m2 ?_ ?_
  · simp [dkM]
  simp [dkM]
  refine post_end (.inr rfl) ?_
  simp [dkM]
theorem load_none (n : Bytes) (a : Int) : Meets Tryd.prog Gt fn_snap_Load [.ptr 1000 0 0, .v (.string (mkS n))] (dkM 0 [] ⟨[], false, a, 0, 0⟩) false (.tup [Snp.zero.av, .v (.int .i64 7)]) (dkM 1 [] ⟨[], false, a, 0, 0⟩) := by
  refine meets_of_go mix k_snap_Load ⟨by simp [dkM], by simp, by simp [dkM]⟩ ?_
  have m1 := read_none0 (G := Gt) n a 0 0
  simp [dkM]
  refine call_intro m1 ?_ ?_
  · simp [dkM]
  simp [dkM]
  refine post_end (.inr rfl) ?_
  simp [dkM, Snp.zero, Snp.av, Sta.zero, Sta.av, Conf.zero, Conf.av, dv]
theorem load_1 (f : Fl) (hw : f.waits = []) (hs : f.safe.length ≤ 1000000) (ho : snOk f.safe = true) (a : Int) : Meets Tryd.prog Gt fn_snap_Load [.ptr 1000 0 0, .v (.string (mkS f.name))] (dkM 0 [] ⟨[f], false, a, 0, 0⟩) false (.tup [(snOf f.safe).av, .v (.int .i64 0)]) (dkM 1 [] ⟨[f], false, a, 0, 0⟩) := by
  refine meets_of_go mix k_snap_Load ⟨by simp [dkM], by simp [dkM], by simp [dkM]⟩ ?_
  have m1 := read_ok1_0 (G := Gt) f a 0 0 (by unfold Fl.size; rw [hw]; simp; omega)
  have m2 := snread_meets f.safe (by omega) ho
  rw [hw] at m1
  simp only [List.append_nil, List.length_nil, Nat.add_zero] at m1
  generalize snOf f.safe = S at *
  simp [dkM]
  refine call_intro m1 ?_ ?_
  · simp [dkM, hw]
  simp [dkM, hw]
  refine call_intro m2 ?_ ?_
  · simp
  simp
  refine post_end (.inr rfl) ?_
  simp [dkM, hw]
theorem load_20 (f g : Fl) (hw : f.waits = []) (hs : f.safe.length ≤ 1000000) (ho : snOk f.safe = true) (a : Int) : Meets Tryd.prog Gt fn_snap_Load [.ptr 1000 0 0, .v (.string (mkS f.name))] (dkM 0 [] ⟨[f, g], false, a, 0, 0⟩) false (.tup [(snOf f.safe).av, .v (.int .i64 0)]) (dkM 1 [] ⟨[f, g], false, a, 0, 0⟩) := by
  refine meets_of_go mix k_snap_Load ⟨by simp [dkM], by simp [dkM], by simp [dkM]⟩ ?_
  have m1 := read_ok2_0 (G := Gt) f g a 0 0 (by unfold Fl.size; rw [hw]; simp; omega)
  have m2 := snread_meets f.safe (by omega) ho
  rw [hw] at m1
  simp only [List.append_nil, List.length_nil, Nat.add_zero] at m1
  generalize snOf f.safe = S at *
  simp [dkM]
  refine call_intro m1 ?_ ?_
  · simp [dkM, hw]
  simp [dkM, hw]
  refine call_intro m2 ?_ ?_
  · simp
  simp
  refine post_end (.inr rfl) ?_
  simp [dkM, hw]
theorem load_21 (f g : Fl) (hne : g.name ≠ f.name) (hw : g.waits = []) (hs : g.safe.length ≤ 1000000) (ho : snOk g.safe = true) (a : Int) : Meets Tryd.prog Gt fn_snap_Load [.ptr 1000 0 0, .v (.string (mkS g.name))] (dkM 0 [] ⟨[f, g], false, a, 0, 0⟩) false (.tup [(snOf g.safe).av, .v (.int .i64 0)]) (dkM 1 [] ⟨[f, g], false, a, 0, 0⟩) := by
  refine meets_of_go mix k_snap_Load ⟨by simp [dkM], by simp [dkM], by simp [dkM]⟩ ?_
  have m1 := read_ok2_1 (G := Gt) f g hne a 0 0 (by unfold Fl.size; rw [hw]; simp; omega)
  have m2 := snread_meets g.safe (by omega) ho
  rw [hw] at m1
  simp only [List.append_nil, List.length_nil, Nat.add_zero] at m1
  generalize snOf g.safe = S at *
  simp [dkM]
  refine call_intro m1 ?_ ?_
  · simp [dkM, hw]
  simp [dkM, hw]
  refine call_intro m2 ?_ ?_
  · simp
  simp
  refine post_end (.inr rfl) ?_
  simp [dkM, hw]
end Go.Proofs.YtbmdaaehogpeeaaDoor.WL

end
section
/-
  CHAPTER 18: two snapshots know nothing of one another.
-/
namespace Go.Proofs.YtbmdaaehogpeeaaDoor.WL
open Go
set_option maxHeartbeats 8000000
variable {G : Nat → Option AV}
attribute [local irreducible] comp hb sha

theorem one18_good : stF.good one18.st := by
  simp [one18, stF, confF, zeroF, mapF, seqF, cntF, inF, repF, repG, memF, dgF, W64, lastId]
theorem confF_good {c : Conf} (h : confF.good c) : c.ms.length ≤ 10 := by
  obtain ⟨_, ⟨_, _, h1⟩, _⟩ := h
  have : (c.ms.length : Int) ≤ 10 := h1
  omega
theorem stF_good {s : Sta} (h : stF.good s) : s.conf.ms.length ≤ 10 ∧ s.pairs.length ≤ 256 ∧ s.reps.length ≤ 64 ∧ ∀ a ∈ s.reps, a.vals.length ≤ 256 := by
  obtain ⟨h1, ⟨⟨_, _, h2⟩, _⟩, ⟨_, _, h3⟩, _, h4⟩ := h
  have h2' : (s.pairs.length : Int) ≤ 256 := h2
  have h3' : (s.reps.length : Int) ≤ 64 := h3
  have h4' : ∀ a ∈ s.reps, replyF.good a := (repG_const replyF _ _).1 h4
  exact ⟨confF_good h1, by omega, by omega, fun a ha => (h4' a ha).2.2.2.2.1⟩
theorem one18_len : one18.st.bytes.length = 80 := by
  rw [Sta.bytes_len]
  simp [one18, Conf.bytes, nums_length, memsB_len, prsB, rpsB]
theorem one18_back : snOk one18.bytes = true ∧ snOf one18.bytes = one18 := sn_back one18 (by simp [one18]) (by rw [one18_len]; omega) one18_good (by simp [one18, Sta.rises])
theorem one18_sm : one18.st.Sm := ⟨by simp [one18], by simp [one18], by simp [one18], by simp [one18], by rw [one18_len]; omega⟩
def bx : Bytes := [120]
def by' : Bytes := [121]
def bs18 : Bytes := [115]
theorem mk_s : mkS [115] = mkS bs18 := rfl
theorem mk_x : mkS [120] = mkS bx := rfl
theorem mk_y : mkS [121] = mkS by' := rfl
theorem alive18_meets : Meets Tryd.prog Gt fn_l18_alive [] [] true (.v (.bool true)) [] := by
  refine meets_of_go mix k_l18_alive ⟨by simp, by simp, by simp⟩ ?_
  have hl : one18.bytes.length = 156 := by rw [Snp.bytes_len, one18_len]
  obtain ⟨hok, hof⟩ := one18_back
  have m1 := new_meets (G := Gt)
  have m2 := load_none bs18 0
  have m3 := one18_meets (G := Gt)
  have m4 := save_0 bs18 one18 one18_sm (by omega) 0 (by omega)
  have m5 := load_1 ⟨bs18, one18.bytes, []⟩ rfl (by simp only; omega) hok 1
  simp only [hof] at m5
  have hz : Snp.zero.av = .node [.v (.int .i64 0), dv Dg.zero, Sta.zero.av] := rfl
  have ho : one18.av = .node [.v (.int .i64 3), dv Dg.zero, one18.st.av] := rfl
  generalize one18.bytes = b at *
  have hms := mk_s
  generalize bs18 = n at *
  simp [hms]
  refine call_intro m1 ?_ ?_
  · simp
  simp
  refine call_intro m2 ?_ ?_
  · simp [dkM, hms]
  simp [dkM]
  refine call_intro m3 ?_ ?_
  · simp
  simp
  refine call_intro m4 ?_ ?_
  · simp [dkM, hms]
  simp [dkM]
  refine call_intro m5 ?_ ?_
  · simp [dkM, hms]
  simp [dkM, ho]
  refine post_end (.inr rfl) ?_
  simp
structure Snp.Lim (s : Snp) : Prop where
  ps : s.st.pairs.length ≤ 1000000
  rs : s.st.reps.length ≤ 1000000
  ms : s.st.conf.ms.length ≤ 1000
  vs : ∀ a ∈ s.st.reps, a.vals.length ≤ 1000000
theorem snOf_lim {b : Bytes} (h : snOk b = true) : (snOf b).Lim := by
  simp only [snOk, stOk, Bool.and_eq_true] at h
  have hd := h.2.1
  have hb : (stF.rd' (Rd.of (snText b))).bad = false := by
    unfold Rd.done at hd
    simp at hd
    exact hd.1
  obtain ⟨k1, k2, k3, k4⟩ := stF_good (stF_law.one _ hb).2.2.2
  exact ⟨Nat.le_trans k2 (by omega), Nat.le_trans k3 (by omega), Nat.le_trans k1 (by omega), fun a ha => Nat.le_trans (k4 a ha) (by omega)⟩
theorem walk_SnapApart (a b : Snp) (ha : a.st.Fin) (hb' : b.st.Fin) : Meets Tryd.prog Gt fn_l18_SnapApart [a.av, b.av] [] true (.v (.bool true)) [] := by
  refine meets_of_go mix k_l18_SnapApart ⟨by simp, by simp, by simp⟩ ?_
  have m1 := alive18_meets
  have m2 := great18_meets (G := Gt) a ha
  have m3 := great18_meets (G := Gt) b hb'
  cases ga : a.st.great with
  | true =>
    rw [ga] at m2
    simp
    refine call_intro m1 ?_ ?_
    · simp
    simp
    refine call_intro m2 ?_ ?_
    · simp
    simp
    refine post_end (.inr rfl) ?_
    simp
  | false =>
  rw [ga] at m2
  cases gb : b.st.great with
  | true =>
    rw [gb] at m3
    simp
    refine call_intro m1 ?_ ?_
    · simp
    simp
    refine call_intro m2 ?_ ?_
    · simp
    simp
    refine call_intro m3 ?_ ?_
    · simp
    simp
    refine post_end (.inr rfl) ?_
    simp
  | false =>
  rw [gb] at m3
  obtain ⟨sa, la, ka⟩ := great_no ga
  obtain ⟨sb, lb, kb⟩ := great_no gb
  have hla := a.bytes_len
  have hlb := b.bytes_len
  have m4 := rsnbytes_meets a sa ka
  have m5 := rsnbytes_meets b sb kb
  have m6 := rsnread_meets a.bytes (by omega)
  have m7 := rsnread_meets b.bytes (by omega)
  have y6 : snOk a.bytes = true → snV a.bytes = snOf a.bytes ∧ snE a.bytes = 0 := fun h => ⟨if_pos h, if_pos h⟩
  have n6 : snOk a.bytes = false → snE a.bytes = 4 := fun h => if_neg (by simp [h])
  have y7 : snOk b.bytes = true → snV b.bytes = snOf b.bytes ∧ snE b.bytes = 0 := fun h => ⟨if_pos h, if_pos h⟩
  have n7 : snOk b.bytes = false → snE b.bytes = 4 := fun h => if_neg (by simp [h])
  cases oa : snOk a.bytes with
  | false =>
    rw [n6 oa] at m6
    generalize snV a.bytes = va at *
    generalize snV b.bytes = vb at *
    generalize snE b.bytes = eb at *
    clear y6 n6 y7 n7 oa
    generalize a.bytes = ab at *
    generalize b.bytes = bb at *
    simp
    refine call_intro m1 ?_ ?_
    · simp
    simp
    refine call_intro m2 ?_ ?_
    · simp
    simp
    refine call_intro m3 ?_ ?_
    · simp
    simp
    refine call_intro m4 ?_ ?_
    · simp
    simp
    refine call_intro m6 ?_ ?_
    · simp
    simp
    refine call_intro m5 ?_ ?_
    · simp
    simp
    refine call_intro m7 ?_ ?_
    · simp
    simp
    refine post_end (.inr rfl) ?_
    simp
  | true =>
  obtain ⟨y1, y2⟩ := y6 oa
  rw [y1, y2] at m6
  cases ob : snOk b.bytes with
  | false =>
    rw [n7 ob] at m7
    generalize snV b.bytes = vb at *
    clear y6 n6 y7 n7 oa ob y1 y2
    generalize snOf a.bytes = va at *
    generalize a.bytes = ab at *
    generalize b.bytes = bb at *
    simp
    refine call_intro m1 ?_ ?_
    · simp
    simp
    refine call_intro m2 ?_ ?_
    · simp
    simp
    refine call_intro m3 ?_ ?_
    · simp
    simp
    refine call_intro m4 ?_ ?_
    · simp
    simp
    refine call_intro m6 ?_ ?_
    · simp
    simp
    refine call_intro m5 ?_ ?_
    · simp
    simp
    refine call_intro m7 ?_ ?_
    · simp
    simp
    refine post_end (.inr rfl) ?_
    simp
  | true =>
  obtain ⟨y3, y4⟩ := y7 ob
  rw [y3, y4] at m7
  clear y6 n6 y7 n7 y1 y2 y3 y4
  have m8 := new_meets (G := Gt)
  have m9 := save_0 bx b sb (by omega) 0 (by omega)
  have hyx : by' ≠ bx := by decide
  have m10 := save_1 ⟨bx, b.bytes, []⟩ by' hyx b sb (by simp [Fl.size]; omega) 1 (by omega)
  have m11 := save_2 ⟨bx, b.bytes, []⟩ ⟨by', b.bytes, []⟩ a sa (by simp [Fl.size]; omega) 2 (by omega)
  have m12 := load_20 ⟨bx, a.bytes, []⟩ ⟨by', b.bytes, []⟩ rfl (by simp only; omega) oa 3
  have m13 := load_21 ⟨bx, a.bytes, []⟩ ⟨by', b.bytes, []⟩ hyx rfl (by simp only; omega) ob 3
  have q1 := snOf_lim oa
  have q2 := snOf_lim ob
  have m14 := snsame_refl (G := Gt) (snOf a.bytes) q1.ps q1.rs q1.ms q1.vs
  have m15 := snsame_refl (G := Gt) (snOf b.bytes) q2.ps q2.rs q2.ms q2.vs
  simp only at m12 m13
  clear q1 q2 oa ob hyx
  generalize snOf a.bytes = va at *
  generalize snOf b.bytes = vb at *
  generalize a.bytes = ab at *
  generalize b.bytes = bb at *
  have hmx := mk_x
  have hmy := mk_y
  generalize bx = nx at *
  generalize by' = ny at *
  simp [hmx, hmy]
  refine call_intro m1 ?_ ?_
  · simp
  simp
  refine call_intro m2 ?_ ?_
  · simp
  simp
  refine call_intro m3 ?_ ?_
  · simp
  simp
  refine call_intro m4 ?_ ?_
  · simp
  simp
  refine call_intro m6 ?_ ?_
  · simp
  simp
  refine call_intro m5 ?_ ?_
  · simp
  simp
  refine call_intro m7 ?_ ?_
  · simp
  simp
  refine call_intro m8 ?_ ?_
  · simp
  simp
  refine call_intro m9 ?_ ?_
  · simp [dkM, hmx]
  simp [dkM]
  refine call_intro m10 ?_ ?_
  · simp [dkM, hmy]
  simp [dkM]
  refine call_intro m11 ?_ ?_
  · simp [dkM, hmx]
  simp [dkM]
  refine call_intro m12 ?_ ?_
  · simp [dkM, hmx]
  simp [dkM]
  refine call_intro m13 ?_ ?_
  · simp [dkM, hmy]
  simp [dkM]
  refine call_intro m14 ?_ ?_
  · simp
  simp
  refine call_intro m15 ?_ ?_
  · simp
  simp
  refine post_end (.inr rfl) ?_
  simp
end Go.Proofs.YtbmdaaehogpeeaaDoor.WL

end
section
/-
  CHAPTER 02: what the row's condition gives the walks: the table in the program's variable.
-/
namespace Go.Proofs.YtbmdaaehogpeeaaDoor.WL
open Go

theorem gTable : Tryd.prog.globalNamed "wapentake/sha.table" = some 0 := by kernel_rfl
def tableZ : List Int := table.map w32
theorem laid_eq {H : Type} : (Rows.laid_wapentake_sha_table : DataW H) = Lib.tabData .u32 tableZ := rfl
theorem Es_ints {C : Ctx} : ∀ ws : List UInt32, Es C 1 (U ws) (ws.map fun z => Value.int .u32 (w32 z))
  | [] => rfl
  | w :: ws => ⟨[_], _, rfl, rfl, ⟨rfl, rfl⟩, Es_ints ws⟩
theorem gr_of_laid {W : World} (h : laidMetH Tryd.prog [("wapentake/sha.table", Rows.laid_wapentake_sha_table)] W) : GR ⟨W, fun k => k < W.heap.size, fun _ => none, fun _ => none, fun g => g = 0⟩ Gt := by
  rw [MakeChecks.laidMetH_plain _ _ _ (by kernel_rfl), laid_eq] at h
  have hT : Lib.TabIs Tryd.prog W "wapentake/sha.table" .u32 tableZ := by
    refine Lib.tabIs_of_head (t := 143) (e := 140) (n := 64) gTable ?_ ?_ ?_ ?_ ?_ h
    · kernel_rfl
    · kernel_rfl
    · kernel_rfl
    · kernel_rfl
    · kernel_rfl
  intro n x hx
  unfold Gt at hx
  split at hx
  · rename_i hn
    subst hn
    cases hx
    refine ⟨by simp [closed, closeds, U, closeds_all], 0, 0, _, rfl, ?_, Es_ints table, ?_⟩
    · have h0 := hT.cell gTable 0 (by decide)
      show 0 < W.heap.size
      rcases Nat.eq_zero_or_pos W.heap.size with h1 | h1
      · simp [World.cell?, Array.getElem?_eq_none (Nat.le_of_eq h1)] at h0
      · exact h1
    · intro j u hu
      have hj : j < table.length := by
        rcases Nat.lt_or_ge j table.length with h1 | h1
        · exact h1
        · rw [List.getElem?_eq_none (by simpa using h1)] at hu
          cases hu
      have h1 := hT.cell gTable j (by simpa [tableZ] using hj)
      rw [Nat.zero_add, h1]
      simp [List.getElem?_eq_getElem hj] at hu
      rw [← hu]
      simp [tableZ, List.getD_eq_getElem?_getD, List.getElem?_eq_getElem hj]
  · cases hx
end Go.Proofs.YtbmdaaehogpeeaaDoor.WL

end
section
/-
  CHAPTER 18: what comes in.
-/
namespace Go.Proofs.YtbmdaaehogpeeaaDoor.WL
open Go

abbrev Ty.pair : Ty := .st [.str, .str]
theorem ty_pair {a : AV} (h : TyOk Ty.pair a) : ∃ p : Pr, a = prA p ∧ (p.key.length ≤ reachBytes ∧ p.val.length ≤ reachBytes) := by
  obtain ⟨a1, a2, rfl, h1, h2⟩ := ty_st2 h
  obtain ⟨x, rfl, w1⟩ := ty_str h1
  obtain ⟨y, rfl, w2⟩ := ty_str h2
  exact ⟨⟨x, y⟩, rfl, w1, w2⟩
abbrev Ty.state : Ty := .st [.sl 2 32 Ty.pair, .sl 4 48 Ty.rep, Ty.conf]
theorem ty_state {a : AV} (h : TyOk Ty.state a) : ∃ s : Sta, a = s.av ∧ s.Fin := by
  obtain ⟨a1, a2, a3, rfl, h1, h2, h3⟩ := ty_st3 h
  obtain ⟨ps, rfl, _, hp⟩ := ty_list (fun _ => ty_pair) h1
  obtain ⟨rs, rfl, _, hr⟩ := ty_list (f := Rep.avS) (fun _ => ty_rep) h2
  obtain ⟨c, rfl, _⟩ := ty_conf h3
  exact ⟨⟨ps, rs, c⟩, rfl, hp, fun a ha => (hr a ha).2⟩
abbrev Ty.snap : Ty := .st [.int .i64, Ty.dg, Ty.state]
theorem ty_snap {a : AV} (h : TyOk Ty.snap a) : ∃ s : Snp, a = s.av ∧ s.st.Fin := by
  obtain ⟨a1, a2, a3, rfl, h1, h2, h3⟩ := ty_st3 h
  obtain ⟨n, rfl, _⟩ := ty_int h1
  obtain ⟨d, rfl⟩ := ty_dg h2
  obtain ⟨s, rfl, w⟩ := ty_state h3
  exact ⟨⟨n, d, s⟩, rfl, w⟩
end Go.Proofs.YtbmdaaehogpeeaaDoor.WL

end
