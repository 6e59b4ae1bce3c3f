/- Texts put together: S11a, S11b, S11c, S01a, S01b, S01c, S01e, S09a. -/
import Derived.Test.YtbmdaaehogpeeaaDoorWc1
import Derived.RangeFuncBox
import Derived.RangeFuncLeaves
import Derived.RangeFuncCalls
import Derived.Shelf.Abstract
import Derived.WalkKit
import Derived.OwnWalkIn
import Derived.TacticsInMore
import Derived.LoopNIn
import Derived.LoopIn
import Derived.Maps.AppendAt
import Derived.RegionIn
section
/-
  CHAPTER 11: slices.Collect(slices.Chunk(b, 256)), by hand: the iterator, what is collected.
-/
namespace Go.Proofs.YtbmdaaehogpeeaaDoor.WL
open Go Go.Proofs Go.RowKit Go.Shelf
attribute [local go_sem] Oper.semAt_some

/-- The j-th piece of a slice of bytes. -/
def chV (b off len j : Nat) : Value := .slice (some ⟨b, off + 256 * j, none⟩) (min 256 (len - 256 * j)) (min 256 (len - 256 * j))
def cntC (len : Nat) : Nat := (len + 255) / 256

set_option maxRecDepth 100000 in
set_option maxHeartbeats 4000000 in
/-- slices.Chunk's closure, for every loop body that keeps what lay below n₀. -/
theorem chunk1_in (n : Nat) (hn : 1 ≤ n) (l B1 B2 n₀ b off len cap : Nat) (hB1 : B1 < n₀) (hB2 : B2 < n₀) (hlen : len ≤ 1000000000) (hcap : len ≤ cap) (hcm : cap ≤ maxLen) (J Jx : List Nat → World → Prop)
    (hJd : ∀ s W, J s W → J s W.drew)
    (hY : ∀ pre x W, J pre W → pre.length < cntC len → YieldAt Fence.wide (n - 1) Tryd.prog l #[chV b off len x] W fun e W' =>
      (e = .returned (.bool true) ∧ J (pre ++ [x]) W' ∧ Below n₀ W W') ∨ (e = .returned (.bool false) ∧ Jx (pre ++ [x]) W'))
    (W : World) (h1 : W.cell? ⟨B1, 0, none⟩ = some (.slice (some ⟨b, off, none⟩) len cap)) (h2 : W.cell? ⟨B2, 0, none⟩ = some (.int .i64 256)) (h0 : J [] W) :
    CallsIn Fence.wide n Tryd.prog 95 #[.func (.yield l) #[] #[], .pointer (some ⟨B1, 0, none⟩), .pointer (some ⟨B2, 0, none⟩)] W fun e W' => (∃ v, e = .returned v) ∧
      ((∃ ys, ys = List.range (cntC len) ∧ J ys W') ∨ (∃ pre, (∃ k, k ≤ cntC len ∧ pre = List.range k) ∧ Jx pre W')) := by
  refine callsIn_of_wp Tryd.func95 rfl trivial ?_ rfl
  simp only [Tryd.ntmps95, List.size_toArray, List.length_cons, List.length_nil, Nat.reduceAdd, Nat.reduceSub, Array.replicate_succ, Array.replicate_zero, List.push_toArray, List.append_toArray, List.nil_append, List.cons_append]
  gi_wp2
  gi_loopw [4] (fun i wr => ∃ k : Nat, k ≤ cntC len ∧ i = .int .i64 ((256 * k : Nat) : Int) ∧ J (List.range k) wr ∧ Below n₀ W wr)
    (fun i _ => 256 * cntC len - (intOf i).toNat)
  case atStart => exact ⟨0, Nat.zero_le _, rfl, h0, Below.refl _ _⟩
  case round =>
    obtain ⟨k, hk, rfl, hJs, hnx⟩ := hrel
    have hc1 := (hnx.cell (p := ⟨B1, 0, none⟩) hB1).trans h1
    have hc2 := (hnx.cell (p := ⟨B2, 0, none⟩) hB2).trans h2
    by_cases hlt : 256 * k < len
    · have hwr : wr.cell? ⟨B1, 0, none⟩ = some (.slice (some ⟨b, off, none⟩) len cap) := hc1
      gi_wp2
      gi_region
      all_goals (
        have e5 : (if (((len - 256 * k : Nat)) : Int) < 256 then (((len - 256 * k : Nat)) : Int) else 256) = ((min 256 (len - 256 * k) : Nat) : Int) := by split <;> omega
        rw [e5]
        have hc3 : wr.drew.cell? ⟨B1, 0, none⟩ = some (.slice (some ⟨b, off, none⟩) len cap) := hc1
        have hc4 : wr.drew.cell? ⟨B2, 0, none⟩ = some (.int .i64 256) := hc2
        have hJ2 : J (List.range k) wr.drew := hJd _ _ hJs
        have hnx2 : Below n₀ W wr.drew := hnx.drew
        obtain ⟨w2, hw2⟩ : ∃ w2, wr.drew = w2 := ⟨_, rfl⟩
        rw [hw2] at hc3 hc4 hJ2 hnx2 ⊢
        obtain ⟨m, hm⟩ : ∃ m, min 256 (len - 256 * k) = m := ⟨_, rfl⟩
        have hkc : k < cntC len := by unfold cntC; omega
        obtain ⟨fn, tmps, assign, body, hy, hR⟩ := hY (List.range k) k w2 hJ2 (by simpa using hkc)
        unfold chV at hy
        rw [hm] at hy ⊢
        have hm1 : m ≤ 256 ∧ m ≤ len - 256 * k ∧ 0 < m := by omega
        gi_wp2
        refine hR.mono ?_
        rintro e W3 (⟨rfl, hJ3, hk3⟩ | ⟨rfl, hJx3⟩)
        · have hc5 : W3.cell? ⟨B2, 0, none⟩ = some (.int .i64 256) := (hk3.cell (p := ⟨B2, 0, none⟩) hB2).trans hc4
          gi_wp2
          go_roundw
          case rel => exact ⟨k + 1, by omega, by simp; omega, by rw [List.range_succ]; exact hJ3, hnx2.trans hk3⟩
          case measure => simp [intOf]; omega
        · gi_wp2
          refine bodyPost_ret (results_none rfl _ _ _) rfl ?_
          exact ⟨⟨_, rfl⟩, .inr ⟨_, ⟨k + 1, by omega, by rw [List.range_succ]⟩, hJx3⟩⟩)
    · have hkc : k = cntC len := by unfold cntC at hk ⊢; omega
      subst hkc
      gi_wp2
      go_end0
      exact ⟨⟨_, rfl⟩, .inl ⟨_, rfl, hJs⟩⟩

theorem chunk_stops (n : Nat) (hn : 1 ≤ n) (B1 B2 n₀ b off len cap : Nat) (hB1 : B1 < n₀) (hB2 : B2 < n₀) (hlen : len ≤ 1000000000) (hcap : len ≤ cap) (hcm : cap ≤ maxLen) (w : World) (hn₀ : n₀ ≤ w.heap.size)
    (h1 : w.cell? ⟨B1, 0, none⟩ = some (.slice (some ⟨b, off, none⟩) len cap)) (h2 : w.cell? ⟨B2, 0, none⟩ = some (.int .i64 256)) :
    SeqStopsK Fence.wide n Tryd.prog 95 #[.pointer (some ⟨B1, 0, none⟩), .pointer (some ⟨B2, 0, none⟩)] (fun j : Nat => #[chV b off len j]) (Below n₀) (fun ys => ys = List.range (cntC len)) (fun pre => ∃ k, k ≤ cntC len ∧ pre = List.range k) (cntC len) w :=
  fun l J Jx W hW hJ _ hY h0 => chunk1_in n hn l B1 B2 n₀ b off len cap hB1 hB2 hlen hcap hcm J Jx (fun s W1 h => hJ s W1 W1.drew none h ⟨rfl, rfl, rfl, Nat.le_refl _, fun _ _ _ => rfl⟩ (fun r e => by cases e)) hY W
    ((hW.cell (p := ⟨B1, 0, none⟩) (Nat.lt_of_lt_of_le hB1 hn₀)).trans h1) ((hW.cell (p := ⟨B2, 0, none⟩) (Nat.lt_of_lt_of_le hB2 hn₀)).trans h2) h0

set_option maxHeartbeats 2000000 in
/-- slices.Chunk: both are boxed; the function value holds the boxes. -/
theorem chunk_in (n : Nat) (a : Option Addr) (len cap : Nat) (w : World) :
    CallsIn Fence.wide n Tryd.prog 84 #[.slice a len cap, .int .i64 256] w fun e w' => e = .returned (.func (.func 95) #[] #[.pointer (some ⟨w.heap.size, 0, none⟩), .pointer (some ⟨w.heap.size + 1, 0, none⟩)]) ∧
      w' = (w.alloc (.cells #[.slice a len cap] 57)).alloc (.cells #[.int .i64 256] 3) := by
  refine callsIn_of_wp Tryd.func84 rfl trivial ?_ rfl
  simp only [Tryd.ntmps84, List.size_toArray, List.length_cons, List.length_nil, Nat.reduceAdd, Nat.reduceSub, Array.replicate_succ, Array.replicate_zero, List.push_toArray, List.append_toArray, List.nil_append, List.cons_append]
  gi_wp2
  go_ret
  exact ⟨by simp, rfl⟩

theorem info_sl : (Tryd.prog.info? 57).map (fun i => (i.zero, i.size, i.bytes)) = some (some (.slice none 0 0), 1, 24) := by kernel_rfl

set_option maxRecDepth 100000 in
set_option maxHeartbeats 4000000 in
/-- slices.AppendSeq over the pieces. -/
theorem appseq_in (n : Nat) (hn : 3 ≤ n) (B1 B2 b off len cap : Nat) (hlen : len ≤ 1000000000) (hcap : len ≤ cap) (hcm : cap ≤ maxLen) (w : World) (hB1 : B1 < w.heap.size) (hB2 : B2 < w.heap.size)
    (h1 : w.cell? ⟨B1, 0, none⟩ = some (.slice (some ⟨b, off, none⟩) len cap)) (h2 : w.cell? ⟨B2, 0, none⟩ = some (.int .i64 256)) :
    CallsIn Fence.wide n Tryd.prog 94 #[.slice none 0 0, .func (.func 95) #[] #[.pointer (some ⟨B1, 0, none⟩), .pointer (some ⟨B2, 0, none⟩)]] w fun e W' =>
      ∃ v, e = .returned v ∧ W'.ownsRow w.heap.size 57 1 v (cntC len) ((List.range (cntC len)).map (chV b off len)) ∧ Below w.heap.size w W' := by
  have hcl : cntC len ≤ 4000000 := by unfold cntC; omega
  have hbm : cntC len ≤ maxLen := by simp only [maxLen]; omega
  obtain ⟨i0, hi, hz0, hz1, hz2⟩ := info_parts info_sl
  refine callsIn_of_wp_marks Tryd.func94 rfl trivial ?_ rfl
  simp only [Tryd.ntmps94, List.size_toArray, List.length_cons, List.length_nil, Nat.reduceAdd, Nat.reduceSub, Array.replicate_succ, Array.replicate_zero, List.push_toArray, List.append_toArray, List.nil_append, List.cons_append]
  gi_wp2
  have bO := Boxed.new w 94 (.slice none 0 0)
  have hB0 : Below w.heap.size w (w.alloc (.cells #[.slice none 0 0] 94)) := (Below.refl _ w).alloc (Nat.le_refl _) _
  refine wpIn_rangeFunc_ownG rfl (by omega) (gf := 95) (lb := #[.pointer (some ⟨B1, 0, none⟩), .pointer (some ⟨B2, 0, none⟩)]) rfl trivial (enters_of Tryd.func95 (by kernel_rfl) rfl)
    (chunk_stops (n - 1) (by omega) B1 B2 w.heap.size b off len cap hB1 hB2 hlen hcap hcm _ (by simp) ((hB0.cell (p := ⟨B1, 0, none⟩) hB1).trans h1) ((hB0.cell (p := ⟨B2, 0, none⟩) hB2).trans h2)) belowK_t (belowK_b (by simp)) (Below.refl _ _) (fun _ => rfl)
    (fun pre W => (∃ v, Boxed W w.heap.size 94 v ∧ W.ownsRow w.heap.size 57 1 v pre.length (pre.map (chV b off len)) ∧ (v = .slice none 0 0 ↔ pre = [])) ∧ Below w.heap.size w W)
    (fun _ _ _ => False)
    (OwnFrom.and (Own.from (holdsRow_own w.heap.size w.heap.size 94 57 1 (fun pre => pre.length) (fun pre => pre.map (chV b off len)) (fun pre v => v = .slice none 0 0 ↔ pre = [])) _) (ownFrom_below (Nat.le_refl _) (by simp)))
    (fun _ _ _ _ _ hs _ _ => hs)
    ⟨⟨_, bO, World.ownsRow_nil _ _ _ _, by simp⟩, hB0⟩
    (fun x => { tmps := #[.slice none 0 0, .func (.func 95) #[] #[.pointer (some ⟨B1, 0, none⟩), .pointer (some ⟨B2, 0, none⟩)], .pointer (some ⟨w.heap.size, 0, none⟩), undef, .slice none 0 0, chV b off len x, .func (.func 95) #[] #[.pointer (some ⟨B1, 0, none⟩), .pointer (some ⟨B2, 0, none⟩)], chV b off len x, undef, undef, undef, undef, undef], defers := [] }) ?assign ?body ?done ?stop
  case assign =>
    intro l x W K hK
    gi_wp2
    exact hK
  case body =>
    rintro l pre x W ⟨⟨v, hv, hrow, hnil⟩, hB⟩ hlt
    have hc := hv.cell
    obtain ⟨m, hm⟩ : ∃ m, min 256 (len - 256 * x) = m := ⟨_, rfl⟩
    obtain ⟨o, ho⟩ : ∃ o, off + 256 * x = o := ⟨_, rfl⟩
    have hxv : chV b off len x = .slice (some ⟨b, o, none⟩) m m := by unfold chV; rw [hm, ho]
    rw [hxv]
    gi_wp2_with (gi_at_builtin; refine wpListIn_append_own _ rfl _ _ 94 rfl w.heap.size 57 i0 (.slice none 0 0) 1 24 Tryd.underlying94 hi hz0 hz1 hz2 rfl (by decide) _ _ _ rfl (hrow.alloc _) ⟨W.heap.size, 0, none⟩ 1 1 [.slice (some ⟨b, o, none⟩) m m] rfl rfl (cell_one_new _ _ _) (by simp [Value.oneCell']) (by omega) (by omega) (by have := hB.size; simp; omega) ?_; intro v' w1 hown' hgrow _; obtain ⟨g', cap', rfl⟩ := ownsRow_succ hown'; obtain ⟨hv1, hv2, hr2, hk2, hb2⟩ := hv.appended (by decide) hrow hB.size (Nat.le_refl _) hown' hgrow; have hc1 := hv1.cell; have hf1 := hv1.frozen)
    exact ⟨hk2.from _, hb2, ⟨_, hv2, by rw [List.map_append, List.map_singleton, hxv]; simpa using hr2, by simp⟩, hB.trans hb2⟩
  case done =>
    rintro D ys W hD rfl ⟨⟨v, hv, hrow, hnil⟩, hB⟩ hK
    have hc := hv.cell
    gi_wp2
    refine ⟨by simp, .inl ⟨_, _, rfl, run_takeDeferred hK, ?_⟩⟩
    refine ⟨_, results_tmp rfl _ _ _, v, rfl, ?_, hB.trans (belowK_b (w := w) (Nat.le_refl _) W D _ _ (by simp at hD; omega) hK rfl rfl)⟩
    rw [List.length_range] at hrow
    exact ownsRow_putObj hrow _ hK rfl
  case stop =>
    rintro D c pre W _ _ h _
    exact h.elim
end Go.Proofs.YtbmdaaehogpeeaaDoor.WL

end
section
/-
  CHAPTER 11: chunk.parts: the pieces, by hand.
-/
namespace Go.Proofs.YtbmdaaehogpeeaaDoor.WL
open Go Go.Proofs Go.RowKit Go.Shelf
set_option maxHeartbeats 4000000

set_option maxRecDepth 100000 in
/-- slices.Collect of the pieces. -/
theorem coll_in (n : Nat) (hn : 4 ≤ n) (B1 B2 b off len cap : Nat) (hlen : len ≤ 1000000000) (hcap : len ≤ cap) (hcm : cap ≤ maxLen) (w : World) (hB1 : B1 < w.heap.size) (hB2 : B2 < w.heap.size)
    (h1 : w.cell? ⟨B1, 0, none⟩ = some (.slice (some ⟨b, off, none⟩) len cap)) (h2 : w.cell? ⟨B2, 0, none⟩ = some (.int .i64 256)) :
    CallsIn Fence.wide n Tryd.prog 83 #[.func (.func 95) #[] #[.pointer (some ⟨B1, 0, none⟩), .pointer (some ⟨B2, 0, none⟩)]] w fun e W' =>
      ∃ v, e = .returned v ∧ W'.ownsRow w.heap.size 57 1 v (cntC len) ((List.range (cntC len)).map (chV b off len)) ∧ Below w.heap.size w W' := by
  have h11 : 1 ≤ n := by omega
  have hfn : Fence.wide.fn 94 := trivial
  refine callsIn_of_wp Tryd.func83 rfl trivial ?_ rfl
  simp only [Tryd.ntmps83, List.size_toArray, List.length_cons, List.length_nil, Nat.reduceAdd, Nat.reduceSub, Array.replicate_succ, Array.replicate_zero, List.push_toArray, List.append_toArray, List.nil_append, List.cons_append]
  gi_wp2_with (gi_at_call 94; refine (appseq_in (n - 1) (by omega) B1 B2 b off len cap hlen hcap hcm w hB1 hB2 h1 h2).mono ?_; rintro e w' ⟨v, rfl, hrow, hb⟩)
  go_ret
  exact ⟨v, rfl, hrow, hb⟩

/-- The pieces of some bytes. -/
def chA (bs : Bytes) (j : Nat) : Bytes := (bs.drop (256 * j)).take 256
def chunks (bs : Bytes) : List Bytes := (List.range (cntC bs.length)).map (chA bs)
@[simp] theorem chunks_length (bs : Bytes) : (chunks bs).length = cntC bs.length := by simp [chunks]
theorem chA_len (bs : Bytes) (j : Nat) : (chA bs j).length = min 256 (bs.length - 256 * j) := by simp [chA]

noncomputable def pqL : Code → Code
  | .seq a _ => a
  | c => c
noncomputable def pqR : Code → Code
  | .seq _ b => b
  | c => c
noncomputable def pqO : Code → Array Oper
  | .region _ ops _ => ops
  | _ => #[]
noncomputable def pqN : Code → Nat
  | .region n _ _ => n
  | _ => 0
theorem wpOps_fp {P : Program} {ops : Array Oper} {Q : Exit → Act → World → Prop} (i : Nat) (rest : List Nat) : wpOps P ops Q (i :: rest) = wpOp P ops Q i (wpOps P ops Q rest) := by
  funext a w
  exact wpOps_cons i rest a w

section
variable {w0 : World} {Ws I0 : Nat → Prop} {G : Nat → Option AV} {C0 C : Ctx}
theorem Es_mapN {f : Nat → AV} {g : Nat → Value} : ∀ (l : List Nat), (∀ j ∈ l, V C (f j) [g j]) → Es C 1 (l.map f) (l.map g)
  | [], _ => rfl
  | j :: l, h => ⟨[g j], _, rfl, rfl, h j List.mem_cons_self, Es_mapN l (fun i hi => h i (List.mem_cons_of_mem _ hi))⟩
/-- A new slice of one-cell things that are known. -/
theorem WR.newSl (h : WR w0 Ws I0 C) {w' : World} (hg : C.w.grownBy w' none) {base : Nat} (hbase : C.w.heap.size ≤ base) {T : TypeId} {v : Value} {es : List AV} {cs : List Value} (hrow : w'.ownsRow base T 1 v es.length cs) (hE : Es C 1 es cs) :
    ∃ C', C.Le C' ∧ WR w0 Ws I0 C' ∧ C'.w = w' ∧ C'.m = C.m ∧ (∀ k, C'.used k ↔ C.used k) ∧ SV C' (.sl 1 es) v := by
  obtain ⟨hcl, ⟨rfl, h0⟩ | ⟨gb, cap, cur, rfl, h1, h2, h3, h4, h5, h6⟩⟩ := hrow
  · obtain ⟨k1, k2⟩ := h.world hg
    obtain rfl : es = [] := List.length_eq_zero_iff.1 h0
    refine ⟨_, k1, k2, rfl, rfl, fun _ => Iff.rfl, none, 0, [], rfl, by simp, by simp, rfl, .inl rfl⟩
  · have hlt : gb < w'.heap.size := by
      rcases Nat.lt_or_ge gb w'.heap.size with h | h
      · exact h
      · rw [Array.getElem?_eq_none h] at h2; cases h2
    obtain ⟨k1, k2⟩ := h.newI hg (Nat.le_trans hbase h1) hlt
    refine ⟨_, k1, k2, rfl, rfl, fun _ => Iff.rfl, some ⟨gb, 0, none⟩, cap, cs, rfl, h3, h4, Es_mono k1 1 es cs hE, .inr ⟨gb, 0, rfl, .inr rfl, fun j u hu => ?_⟩⟩
    have hj : j < es.length := by
      have := (List.getElem?_eq_some_iff.1 hu).1
      omega
    have : cur.toList[j]? = some u := by
      rw [← h6, List.getElem?_take_of_lt (by omega)] at hu
      exact hu
    simp only [World.cell?, h2]
    simpa using this
/-- A piece of a slice that stays. -/
theorem V_piece {bs : Bytes} {b o : Nat} {body : List Value} (hE : Es C 1 (B bs) body) (hI : C.I b) (hc : CellsAt C.w b o body) (hl : bs.length ≤ maxLen) (j : Nat) : V C (.sl 1 (B (chA bs j))) [chV b o bs.length j] := by
  have e : B (chA bs j) = ((B bs).drop (256 * j)).take 256 := by simp [B, chA]
  have hlen : (B (chA bs j)).length = min 256 (bs.length - 256 * j) := by simp [B, chA_len]
  simp only [V]
  refine ⟨some ⟨b, o + 256 * j, none⟩, min 256 (bs.length - 256 * j), (body.drop (256 * j * 1)).take (256 * 1), by rw [hlen]; rfl, by omega, by omega, by rw [e]; exact Es_take (Es_drop hE), .inr ⟨b, o + 256 * j, rfl, hI, fun i u hu => ?_⟩⟩
  have hi : i < 256 := by
    have := (List.getElem?_eq_some_iff.1 hu).1
    simp at this
    omega
  rw [List.getElem?_take_of_lt (by omega), List.getElem?_drop, Nat.mul_one] at hu
  have := hc _ _ hu
  rw [← Nat.add_assoc] at this
  exact this
end

noncomputable def pBody : Code := match Tryd.f50.body with
  | some c => c
  | none => .skip
theorem p_body : Tryd.f50.body = some pBody := by kernel_rfl
noncomputable def pb1 : Code := pqR pBody
noncomputable def pb2 : Code := pqR pb1
noncomputable def opsP : Array Oper := pqO (pqL pb1)
noncomputable def pnP : Nat := pqN (pqL pb1)
theorem p_seq : pBody = .seq (pqL pBody) (.seq (.region pnP opsP false) pb2) := by kernel_rfl
theorem opsP_size : opsP.size = 4 := by kernel_rfl
theorem opsP_at0 : opsP[0]? = some (opsP[0]!) := by kernel_rfl
theorem opsP_at3 : opsP[3]? = some (opsP[3]!) := by kernel_rfl
theorem opsP_chk0 : chkOper Tryd.prog opsP 12 (opsP[0]!) ⟨some 4, .mov, [.t 0], none⟩ = true := by kernel_rfl
theorem opsP_chk3 : chkOper Tryd.prog opsP 12 (opsP[3]!) ⟨some 3, .mov, [.t 6], none⟩ = true := by kernel_rfl
theorem opsP_at1 : ∃ t p af at', opsP[1]? = some ⟨some 5, .call { callee := .value (.func 84), args := #[.tmp 4, .const (.int .i64 256)], argTypes := at' }, t, p, af, none⟩ := by
  have h : opsP[1]? = some (opsP[1]!) := by kernel_rfl
  have h2 : opsP[1]! = ⟨some 5, .call { callee := .value (.func 84), args := #[.tmp 4, .const (.int .i64 256)], argTypes := #[57, 3] }, (opsP[1]!).type, (opsP[1]!).pos, (opsP[1]!).after, none⟩ := by kernel_rfl
  exact ⟨_, _, _, _, h.trans (congrArg some h2)⟩
theorem opsP_at2 : ∃ t p af at', opsP[2]? = some ⟨some 6, .call { callee := .value (.func 83), args := #[.tmp 5], argTypes := at' }, t, p, af, none⟩ := by
  have h : opsP[2]? = some (opsP[2]!) := by kernel_rfl
  have h2 : opsP[2]! = ⟨some 6, .call { callee := .value (.func 83), args := #[.tmp 5], argTypes := #[135] }, (opsP[2]!).type, (opsP[2]!).pos, (opsP[2]!).after, none⟩ := by kernel_rfl
  exact ⟨_, _, _, _, h.trans (congrArg some h2)⟩
end Go.Proofs.YtbmdaaehogpeeaaDoor.WL

end
section
/-
  CHAPTER 11: chunk.parts' contract.
-/
namespace Go.Proofs.YtbmdaaehogpeeaaDoor.WL
open Go Go.Proofs Go.RowKit Go.Shelf
set_option maxHeartbeats 4000000

section
variable {w0 : World} {Ws I0 : Nat → Prop} {G : Nat → Option AV} {C0 C : Ctx}
set_option maxRecDepth 100000 in
theorem parts_calls {bs : Bytes} (hb0 : bs ≠ []) (hbl : bs.length ≤ 1000000000) {clk : Nat} {s : AS} {a : Act} {rem : List Nat} {Q : Exit → Act → World → Prop} {Kt : Act → World → Prop}
    (hm : Mid w0 Ws I0 G C0 12 clk (clk + 4) rem s a C) (h4 : s.1 4 = some (.sl 1 (B bs)))
    (hK2 : ∀ a' C', Mid w0 Ws I0 G C0 12 clk (clk + 4) rem (upd (upd s.1 5 none) 6 (some (.sl 1 (Bws (chunks bs)))), s.2) a' C' → Kt a' C'.w) :
    wpOp Tryd.prog opsP Q 1 (wpOp Tryd.prog opsP Q 2 Kt) a C.w := by
  obtain ⟨y, e4, v4⟩ := hm.fr 4 _ h4
  obtain ⟨ad, cap, body, ey, hle, hcm, hE, hor⟩ : ∃ a cap body, [y] = [Value.slice a (B bs).length cap] ∧ (B bs).length ≤ cap ∧ cap ≤ maxLen ∧ Es C 1 (B bs) body ∧ (B bs = [] ∨ ∃ b o, a = some ⟨b, o, none⟩ ∧ C.I b ∧ CellsAt C.w b o body) := v4
  have hBl : (B bs).length = bs.length := by simp [B]
  rw [hBl] at ey hle
  obtain ⟨b, o, rfl, hI, hcells⟩ := hor.resolve_left (fun h => hb0 (by simpa [B] using h))
  obtain rfl : y = .slice (some ⟨b, o, none⟩) bs.length cap := by simpa using ey
  have hsize := hm.size
  obtain ⟨t1, p1, af1, at1, h1⟩ := opsP_at1
  obtain ⟨t2, p2, af2, at2, h2⟩ := opsP_at2
  unfold wpOp
  rw [h1]
  simp only
  rw [if_pos (by rfl)]
  left
  unfold Oper.wp
  have eg1 : ∀ args w, (callFunc 84 args).run Tryd.prog w = .ok (.enter 84 args) w := enters_of Tryd.func84 (by kernel_rfl) rfl
  have eg2 : ∀ args w, (callFunc 83 args).run Tryd.prog w = .ok (.enter 83 args) w := enters_of Tryd.func83 (by kernel_rfl) rfl
  have run1 : (execOp a.eval ⟨some 5, .call { callee := .value (.func 84), args := #[.tmp 4, .const (.int .i64 256)], argTypes := at1 }, t1, p1, af1, none⟩).run Tryd.prog C.w = .ok (.enter 84 #[.slice (some ⟨b, o, none⟩) bs.length cap, .int .i64 256]) C.w := by
    have e9 : a.eval (.tmp 4) = .slice (some ⟨b, o, none⟩) bs.length cap := by
      show Array.getD _ 4 undef = _
      rw [Array.getD_eq_getD_getElem?, e4]; rfl
    have e : execOp a.eval ⟨some 5, .call { callee := .value (.func 84), args := #[.tmp 4, .const (.int .i64 256)], argTypes := at1 }, t1, p1, af1, none⟩ = callFunc 84 (#[] ++ #[Operand.tmp 4, .const (.int .i64 256)].map a.eval) := rfl
    rw [e, eg1]
    simp [e9]
    rfl
  rw [run1, Oper.upon_enter]
  obtain ⟨fv, hfv⟩ : ∃ fv, fv = Value.func (.func 95) #[] #[.pointer (some ⟨C.w.heap.size, 0, none⟩), .pointer (some ⟨C.w.heap.size + 1, 0, none⟩)] := ⟨_, rfl⟩
  refine Calls.mono ((callsIn_wide (n := 3)).1 (chunk_in 3 (some ⟨b, o, none⟩) bs.length cap C.w)) ?_
  rintro ex w1 ⟨hex, rfl⟩
  have hex2 : ex = .returned fv := hex.trans (congrArg Ending.returned hfv.symm)
  clear hex
  subst hex2
  dsimp only
  rw [h2]
  simp only
  rw [if_pos (by rfl)]
  left
  obtain ⟨a1, ha1⟩ : ∃ a1, a.put (some 5) fv = a1 := ⟨_, rfl⟩
  have e5 : a1.eval (.tmp 5) = fv := by
    rw [← ha1]
    show Array.getD _ 5 undef = _
    rw [Array.getD_eq_getD_getElem?]
    simp only [Act.put]
    rw [Array.getElem?_setIfInBounds_self_of_lt (by omega)]; rfl
  obtain ⟨w1, hw1⟩ : ∃ w1, (C.w.alloc (.cells #[.slice (some ⟨b, o, none⟩) bs.length cap] 57)).alloc (.cells #[.int .i64 256] 3) = w1 := ⟨_, rfl⟩
  have hs1 : w1.heap.size = C.w.heap.size + 2 := by rw [← hw1]; simp
  have hb1 : Below C.w.heap.size C.w w1 := by rw [← hw1]; exact ((Below.refl _ _).alloc (Nat.le_refl _) _).alloc (by simp) _
  have hk1 : w1.heap[C.w.heap.size]? = some (.cells #[.slice (some ⟨b, o, none⟩) bs.length cap] 57) := by
    rw [← hw1]
    exact ((Below.refl _ _).alloc (Nat.le_refl _) _ |>.block C.w.heap.size (by simp)).trans (MapKept.heap_alloc C.w _).1
  have hk2 : w1.heap[C.w.heap.size + 1]? = some (.cells #[.int .i64 256] 3) := by
    rw [← hw1]
    have := (MapKept.heap_alloc (C.w.alloc (.cells #[.slice (some ⟨b, o, none⟩) bs.length cap] 57)) (.cells #[.int .i64 256] 3)).1
    simpa using this
  have hc1 : w1.cell? ⟨C.w.heap.size, 0, none⟩ = some (.slice (some ⟨b, o, none⟩) bs.length cap) := by
    unfold World.cell?
    rw [show w1.heap[(⟨C.w.heap.size, 0, none⟩ : Addr).block]? = _ from hk1]
    rfl
  have hc2 : w1.cell? ⟨C.w.heap.size + 1, 0, none⟩ = some (.int .i64 256) := by
    unfold World.cell?
    rw [show w1.heap[(⟨C.w.heap.size + 1, 0, none⟩ : Addr).block]? = _ from hk2]
    rfl
  rw [ha1, hw1]
  have run2 : (execOp a1.eval ⟨some 6, .call { callee := .value (.func 83), args := #[.tmp 5], argTypes := at2 }, t2, p2, af2, none⟩).run Tryd.prog w1 = .ok (.enter 83 #[fv]) w1 := by
    have e : execOp a1.eval ⟨some 6, .call { callee := .value (.func 83), args := #[.tmp 5], argTypes := at2 }, t2, p2, af2, none⟩ = callFunc 83 (#[] ++ #[Operand.tmp 5].map a1.eval) := rfl
    rw [e, eg2]
    simp [e5]
  show Oper.wp _ _ _ _ _ _
  unfold Oper.wp
  rw [run2, Oper.upon_enter]
  have hcall := coll_in 4 (by omega) C.w.heap.size (C.w.heap.size + 1) b o bs.length cap hbl hle hcm w1 (by omega) (by omega) hc1 hc2
  rw [← hfv] at hcall
  refine Calls.mono ((callsIn_wide (n := 4)).1 hcall) ?_
  rintro ex w' ⟨v, rfl, hrow, hbel⟩
  dsimp only
  have hgr : C.w.grownBy w' none := ⟨hbel.os.trans hb1.os, hbel.tape.trans hb1.tape, hbel.output.trans hb1.output, Nat.le_trans hb1.size hbel.size, fun k hk _ => (hbel.block k (by omega)).trans (hb1.block k hk)⟩
  have hlm : bs.length ≤ maxLen := by simp only [maxLen]; omega
  have hes : Es C 1 (Bws (chunks bs)) ((List.range (cntC bs.length)).map (chV b o bs.length)) := by
    have : Bws (chunks bs) = (List.range (cntC bs.length)).map fun j => .sl 1 (B (chA bs j)) := by simp [Bws, chunks]
    rw [this]
    exact Es_mapN _ (fun j _ => V_piece hE hI hcells hlm j)
  have hrow2 : w'.ownsRow w1.heap.size 57 1 v (Bws (chunks bs)).length ((List.range (cntC bs.length)).map (chV b o bs.length)) := by
    rw [Bws_length, chunks_length]
    exact hrow
  obtain ⟨C', hle', hwr, rfl, hCm, hus, hsv⟩ := hm.wr.newSl hgr (by omega) hrow2 hes
  refine hK2 _ C' ⟨hwr, hCm.trans hm.m, ?_, hm.gr.mono hle', hm.le.trans hle', ?_, ?_, fun i hi hu => hm.fresh i hi ((hus _).1 hu), fun k hk => hm.top k ((hus k).1 hk), fun h1 => hm.one ((hus 1).1 h1)⟩
  · intro u x hx
    dsimp only at hx ⊢
    rw [← ha1]
    by_cases e11 : u = 6
    · subst e11
      simp only [upd_same, Option.some.injEq] at hx
      subst hx
      refine ⟨v, ?_, hsv⟩
      simp only [Act.put]
      rw [Array.getElem?_setIfInBounds_self_of_lt (by simp; omega)]
    · rw [upd_other _ _ e11] at hx
      by_cases e10 : u = 5
      · subst e10; simp at hx
      · rw [upd_other _ _ e10] at hx
        obtain ⟨z, h1, h2⟩ := (hm.fr.mono hle') u x hx
        refine ⟨z, ?_, h2⟩
        simp only [Act.put]
        rw [Array.getElem?_setIfInBounds_ne (fun h => e11 h.symm), Array.getElem?_setIfInBounds_ne (fun h => e10 h.symm)]
        exact h1
  · rw [← ha1]; simp [Act.put, hsize]
  · rw [← ha1]; simp [Act.put, hm.defers]
end

variable {G : Nat → Option AV}
def pc0 : CCode := .region c_chunk_parts_r0 none [0]
def pc2 : CCode := .seq (.seq (.region c_chunk_parts_r2 none [3, 9]) (.cond (.t 9) (.region c_chunk_parts_r3 none [3]) .skip)) (.seq (.region c_chunk_parts_r4 none [2]) .ret)
theorem pchk0 : chkCode Tryd.prog 12 (pqL pBody) pc0 = true := by kernel_rfl
theorem pchk2 : chkCode Tryd.prog 12 pb2 pc2 = true := by kernel_rfl
def pS0 (bs : Bytes) : SA := ⟨[(0, .sl 1 (B bs))], [], 3⟩
def pS2 (bs : Bytes) : SA := ⟨[(3, .sl 1 (Bws (chunks bs)))], [], 7⟩
theorem pa0 (bs : Bytes) : awp Tryd.prog G pc0 (fun e S => e = .normal ∧ S = pS0 bs) ⟨argsL 0 [.sl 1 (B bs)], [], 2⟩ := by
  refine awp_go ?_
  simp [pc0]
  rfl
section
variable {w0 : World} {Ws I0 : Nat → Prop} {C0 : Ctx}
theorem p_mid {bs : Bytes} (hb0 : bs ≠ []) (hbl : bs.length ≤ 1000000000) {a : Act} {w : World} {Q : Exit → Act → World → Prop} (hr : Rel w0 Ws I0 G C0 12 (pS0 bs) a w)
    (hK : ∀ a' w', Rel w0 Ws I0 G C0 12 (pS2 bs) a' w' → Q .normal a' w') : (Code.region pnP opsP false).wp Tryd.prog Q a w := by
  refine wp_region ?_
  rw [opsP_size, show List.range 4 = [0, 1, 2, 3] from rfl]
  rw [wpOps_fp, wpOps_fp, wpOps_fp, wpOps_fp]
  obtain ⟨hk, C, rfl, hm⟩ := hr
  have hm0 := Rel.start (n := 4) hk hm [0, 3]
  refine mid_op (rd := []) (us := []) (av := .sl 1 (B bs)) opsP_at0 opsP_chk0 (by decide) (by simp) (by simp [pS0]) (by simp [pS0]) hm0 (.inr ⟨rfl, [.sl 1 (B bs)], rfl, rfl, rfl⟩) fun a1 C1 h1 => ?_
  refine parts_calls hb0 hbl h1 rfl fun a5 C5 h5 => ?_
  refine mid_op (rd := []) (us := []) (av := .sl 1 (Bws (chunks bs))) opsP_at3 opsP_chk3 (by decide) (by simp) (by simp [pS0]) (by simp [pS0]) h5 (.inr ⟨rfl, [.sl 1 (Bws (chunks bs))], rfl, rfl, rfl⟩) fun a6 C6 h6 => ?_
  refine hK _ _ ⟨by simp [pS2], C6, rfl, h6.wr, h6.m, ?_, h6.gr, h6.le, h6.size, h6.defers, by simp, fun k hk => h6.top k hk, h6.one⟩
  intro t y hx
  have : t = 3 := by
    simp only [pS2, look] at hx
    split at hx
    · omega
    · cases hx
  subst this
  exact h6.fr _ y hx
end
theorem pa2 (bs : Bytes) (h : cntC bs.length ≠ 0) : awp Tryd.prog G pc2 (postA [.tmp 2] (.sl 1 (Bws (chunks bs))) []) (pS2 bs) := by
  refine awp_go ?_
  simp [pc2, pS2, h]
  refine post_end (.inr rfl) ?_
  simp
theorem parts_meets (bs : Bytes) (hb0 : bs ≠ []) (hbl : bs.length ≤ 1000000000) : Meets Tryd.prog G fn_chunk_parts [.sl 1 (B bs)] [] false (.sl 1 (Bws (chunks bs))) [] := by
  have hf : Tryd.prog.funcs[fn_chunk_parts]? = some Tryd.f50 := by kernel_rfl
  have hnt : Tryd.f50.ntmps = 12 := by kernel_rfl
  have hc0 : cntC bs.length ≠ 0 := by
    have := List.length_pos_iff.2 hb0
    unfold cntC
    omega
  refine meets_of_wp (keep := false) (rs := [.tmp 2]) hf p_body (by kernel_rfl) (by rw [hnt]; simp) ⟨by simp, by simp, by simp⟩ fun w0 Ws I0 C0 a w hr => ?_
  rw [hnt] at hr ⊢
  rw [p_seq]
  refine wp_seq (wp_mono (awp_ok mix pchk0 (pa0 bs) hr) ?_)
  rintro e a1 w1 ⟨S1, ⟨rfl, rfl⟩, h1⟩
  refine wp_seq (p_mid hb0 hbl h1 fun a5 w5 h5 => ?_)
  exact awp_ok mix pchk2 (pa2 bs hc0) h5
end Go.Proofs.YtbmdaaehogpeeaaDoor.WL

end
section
/-
  CHAPTER 01: contracts of the reader.
-/
namespace Go.Proofs.YtbmdaaehogpeeaaDoor.WL
open Go
set_option maxHeartbeats 4000000

/-- A reader's memory. -/
def rdM (g : Nat) (r : Rd) : List (Nat × Loc) := [(1000, .var 0 (.node [.row 2000 1 g r.pre.length r.s.length, .v (.bool r.bad)])), (2000, .rows g 1 (B (r.pre ++ r.s)))]
/-- Where the bytes lie that were taken. -/
def Rd.at_ (r : Rd) (k : Int) : Nat := if r.ok k = true then r.pre.length else 0
theorem Rd.at_le (r : Rd) (k : Int) : r.at_ k + (r.got k).length = (r.skip k).pre.length := by
  unfold Rd.at_ Rd.got Rd.skip
  split <;> simp [Rd.fault]
theorem Rd.at_drop (r : Rd) (k : Int) : ((r.skip k).pre ++ (r.skip k).s).drop (r.at_ k) = r.got k ++ (r.skip k).s := by
  unfold Rd.at_ Rd.got Rd.skip
  split <;> simp [Rd.fault]
theorem Rd.at_get (r : Rd) (k : Int) (j : Nat) (h : j < (r.got k).length) : ((r.skip k).pre ++ (r.skip k).s)[r.at_ k + j]? = some (r.got k)[j] := by
  rw [← List.getElem?_drop, Rd.at_drop, List.getElem?_append_left h, List.getElem?_eq_getElem h]

theorem read_meets {G : Nat → Option AV} (bs : Bytes) (h : fitsB bs.length 1) : Meets Tryd.prog G fn_code_Read [.sl 1 (B bs)] [] true (.ptr 1000 1 0) [(1000, .var 1 (.node [.row 2000 1 1 0 bs.length, .v (.bool false)])), (2000, .rows 1 1 (B bs))] := by
  refine meets_of_go mix k_code_Read ⟨by simp, by simp, by simp⟩ ?_
  simp [h]
  refine post_end (.inr rfl) ?_
  simp

theorem good_meets {G : Nat → Option AV} (r : Rd) : Meets Tryd.prog G fn_code_Reader_Good [.ptr 1000 0 0] (rdM 0 r) true (.v (.bool !r.bad)) (rdM 1 r) := by
  refine meets_of_go mix k_code_Reader_Good ⟨by simp [rdM], by simp, by simp [rdM]⟩ ?_
  simp [rdM]
  refine post_end (.inr rfl) ?_
  simp

theorem take_meets {G : Nat → Option AV} (r : Rd) (k : Int) :
    Meets Tryd.prog G fn_code_Reader_take [.ptr 1000 0 0, .v (.int .i64 k)] (rdM 0 r) true (.row 2000 1 1 (r.at_ k) (r.got k).length) (rdM 1 (r.skip k)) := by
  refine meets_of_go mix k_code_Reader_take ⟨by simp [rdM], by simp [rdM], by simp [rdM]⟩ ?_
  cases hok : r.ok k with
  | true =>
    have h := hok
    simp only [Rd.ok, Bool.and_eq_true, Bool.not_eq_true', decide_eq_true_eq] at h
    obtain ⟨⟨h1, h2⟩, h3⟩ := h
    have h4 : ¬ (k < 0) := by omega
    have h5 : ¬ ((r.s.length : Int) < k) := by omega
    obtain ⟨n, rfl⟩ := Int.eq_ofNat_of_zero_le h2
    have h6 : n ≤ r.s.length := by omega
    simp [rdM, h1, h3, h4, h5, h6, Rd.at_, Rd.got, Rd.skip, hok]
    refine post_end (.inr rfl) ?_
    simp [h6]
  | false =>
    have h : r.bad = true ∨ k < 0 ∨ (r.s.length : Int) < k := by
      simp only [Rd.ok] at hok
      cases hb : r.bad
      · simp [hb] at hok; omega
      · simp
    cases hb : r.bad
    · simp [hb] at h
      by_cases h0 : k < 0
      · simp [rdM, hb, h0, Rd.at_, Rd.got, Rd.skip, hok]
        refine post_end (.inr rfl) ?_
        simp [Rd.fault]
      · have h1 : (r.s.length : Int) < k := by omega
        simp [rdM, hb, h0, h1, Rd.at_, Rd.got, Rd.skip, hok]
        refine post_end (.inr rfl) ?_
        simp [Rd.fault]
    · simp [rdM, hb, Rd.at_, Rd.got, Rd.skip, hok]
      refine post_end (.inr rfl) ?_
      simp [Rd.fault]

end Go.Proofs.YtbmdaaehogpeeaaDoor.WL

end
section
/-
  CHAPTER 01: contracts of the reader, second part.
-/
namespace Go.Proofs.YtbmdaaehogpeeaaDoor.WL
open Go
set_option maxHeartbeats 4000000

/-- The reader's memory behind the first call. -/
def rdC (r : Rd) : List (Nat × Loc) := [(1000, .var 0 (.node [.row 1072000 1 5 r.pre.length r.s.length, .v (.bool r.bad)])), (1072000, .rows 5 1 (B (r.pre ++ r.s)))]

theorem num_meets {G : Nat → Option AV} (r : Rd) : Meets Tryd.prog G fn_code_Reader_Num [.ptr 1000 0 0] (rdM 0 r) true (.v (.int .i64 r.num)) (rdM 1 r.num') := by
  refine meets_of_go mix k_code_Reader_Num ⟨by simp [rdM], by simp, by simp [rdM]⟩ ?_
  simp
  refine call_intro (take_meets r 8) ?_ ?_
  · simp [rdM]
  simp [rdM]
  refine go_up (r.got 8).length (fun _ _ => True) (fun j (_ : Unit) c => ⟨[(3, .v (.int .u64 (beVal ((r.got 8).take j) : Nat))), (7, .row 1072000 1 5 (r.at_ 8) (r.got 8).length), (8, .v (.int .i64 ((r.got 8).length : Nat))), (9, .v (.int .i64 (j : Nat)))], rdC (r.skip 8), c⟩)
    () _ (Weak.refl _) trivial ?_ ?_
  · intro j _ c hj _
    have h8 : (r.got 8).length ≤ 8 := r.got_le 8
    have hw : IntKind.i64.wrap ((j : Int) + 1) = ((j + 1 : Nat) : Int) := w64_succ (by omega)
    have hlt : beVal ((r.got 8).take j) < 2 ^ 56 := Nat.lt_of_lt_of_le (beVal_lt _) (by
      rw [List.length_take]
      exact Nat.le_trans (Nat.pow_le_pow_right (by omega) (show min j (r.got 8).length ≤ 7 by omega)) (by decide))
    have hb := byte_u64 (beVal ((r.got 8).take j)) (r.got 8)[j] hlt
    rw [← beVal_take_succ _ _ hj] at hb
    have hget := r.at_get 8 j hj
    have hle := r.at_le 8
    simp [rdC, hj, hget, hw, hb]
    exact ⟨(), _, Weak.refl _, trivial⟩
  · intro _ c _
    simp [rdC]
    refine post_end (.inr rfl) ?_
    simp [Rd.num, Rd.num']

theorem digest_meets {G : Nat → Option AV} (r : Rd) : Meets Tryd.prog G fn_code_Reader_Digest [.ptr 1000 0 0] (rdM 0 r) true (dv r.dg) (rdM 1 r.dg') := by
  refine meets_of_go mix k_code_Reader_Digest ⟨by simp [rdM], by simp, by simp [rdM]⟩ ?_
  have h1 : (32 : Nat) ≤ maxLen := by decide
  have h3 := r.at_le 32
  have h4 : (r.got 32).length ≤ 32 := r.got_le 32
  have h5 : (List.take (r.got 32).length (List.drop (r.at_ 32) ((r.skip 32).pre ++ (r.skip 32).s))) = r.got 32 := by rw [Rd.at_drop]; simp
  have h6 : splice (B (zeros 32)) 0 (B (r.got 32)) = B r.dg.bs := splice_zeros 32 (r.got 32)
  simp [h1]
  refine call_intro (take_meets r 32) ?_ ?_
  · simp [rdM]
  simp [rdM, h3, h4, h5, h6]
  refine post_end (.inr rfl) ?_
  simp [Rd.dg']

theorem in_meets {G : Nat → Option AV} (r : Rd) (lo hi : Int) : Meets Tryd.prog G fn_code_Reader_In [.ptr 1000 0 0, .v (.int .i64 lo), .v (.int .i64 hi)] (rdM 0 r) true (.v (.int .i64 (r.inn lo hi))) (rdM 1 (r.inn' lo hi)) := by
  refine meets_of_go mix k_code_Reader_In ⟨by simp [rdM], by simp, by simp [rdM]⟩ ?_
  simp
  refine call_intro (num_meets r) ?_ ?_
  · simp [rdM]
  simp [rdM]
  by_cases h1 : lo ≤ r.num
  · by_cases h2 : r.num ≤ hi
    · cases hb : r.num'.bad
      · simp [h1, h2]
        refine post_end (.inr rfl) ?_
        simp [Rd.inn, Rd.inn', Rd.inOk, h1, h2, hb]
      · simp [h1, h2]
        refine post_end (.inr rfl) ?_
        simp [Rd.inn, Rd.inn', Rd.inOk, hb, Rd.fault]
    · simp [h1, h2]
      refine post_end (.inr rfl) ?_
      simp [Rd.inn, Rd.inn', Rd.inOk, h2, Rd.fault]
  · simp [h1]
    refine post_end (.inr rfl) ?_
    simp [Rd.inn, Rd.inn', Rd.inOk, h1, Rd.fault]

theorem end_meets {G : Nat → Option AV} (r : Rd) : Meets Tryd.prog G fn_code_Reader_End [.ptr 1000 0 0] (rdM 0 r) true (.v (.bool r.done)) (rdM 1 r) := by
  refine meets_of_go mix k_code_Reader_End ⟨by simp [rdM], by simp, by simp [rdM]⟩ ?_
  simp
  refine call_intro (good_meets r) ?_ ?_
  · simp [rdM]
  cases hb : r.bad
  · simp [rdM]
    refine post_end (.inr rfl) ?_
    simp [Rd.done, hb]
  · simp [rdM]
    refine post_end (.inr rfl) ?_
    simp [Rd.done, hb]

end Go.Proofs.YtbmdaaehogpeeaaDoor.WL

end
section
/-
  CHAPTER 01: contracts of the reader: texts.
-/
namespace Go.Proofs.YtbmdaaehogpeeaaDoor.WL
open Go
set_option maxHeartbeats 4000000

def rdT (g : Nat) (r : Rd) : List (Nat × Loc) := [(1000, .var 0 (.node [.row 1092000 1 g r.pre.length r.s.length, .v (.bool r.bad)])), (1092000, .rows g 1 (B (r.pre ++ r.s)))]

theorem text_meets {G : Nat → Option AV} (r : Rd) (mx : Int) : Meets Tryd.prog G fn_code_Reader_Text [.ptr 1000 0 0, .v (.int .i64 mx)] (rdM 0 r) true (.v (.string (mkS (r.text mx)))) (rdM 1 (r.text' mx)) := by
  refine meets_of_go mix k_code_Reader_Text ⟨by simp [rdM], by simp, by simp [rdM]⟩ ?_
  simp
  refine call_intro (take_meets r 4) ?_ ?_
  · simp [rdM]
  simp [rdM]
  refine go_up (r.got 4).length (fun _ _ => True) (fun j (_ : Unit) c => ⟨[(0, .ptr 1000 0 0), (1, .v (.int .i64 mx)), (5, .v (.int .i64 (beVal ((r.got 4).take j) : Nat))), (9, .row 1092000 1 5 (r.at_ 4) (r.got 4).length), (10, .v (.int .i64 ((r.got 4).length : Nat))), (11, .v (.int .i64 (j : Nat)))], rdT 5 (r.skip 4), c⟩)
    () _ (Weak.refl _) trivial ?_ ?_
  · intro j _ c hj _
    have h8 : (r.got 4).length ≤ 4 := r.got_le 4
    have hw : IntKind.i64.wrap ((j : Int) + 1) = ((j + 1 : Nat) : Int) := w64_succ (by omega)
    have hlt : beVal ((r.got 4).take j) < 2 ^ 24 := Nat.lt_of_lt_of_le (beVal_lt _) (by
      rw [List.length_take]
      exact Nat.le_trans (Nat.pow_le_pow_right (by omega) (show min j (r.got 4).length ≤ 3 by omega)) (by decide))
    have hb := byte_i64 (beVal ((r.got 4).take j)) (r.got 4)[j] (by omega)
    have hu := (r.got 4)[j].toNat_lt
    rw [w64_id (n := ((beVal ((r.got 4).take j) * 256 + (r.got 4)[j].toNat : Nat) : Int)) (by omega), ← beVal_take_succ _ _ hj] at hb
    have hget := r.at_get 4 j hj
    have hle := r.at_le 4
    simp [rdT, hj, hget, hw, hb]
    exact ⟨(), _, Weak.refl _, trivial⟩
  · intro _ c _
    have h3 := (r.skip 4).at_le (r.len mx)
    have h5 : (List.take ((r.skip 4).got (r.len mx)).length (List.drop ((r.skip 4).at_ (r.len mx)) (((r.skip 4).skip (r.len mx)).pre ++ ((r.skip 4).skip (r.len mx)).s))) = (r.skip 4).got (r.len mx) := by rw [Rd.at_drop]; simp
    by_cases hm : mx < (beVal (r.got 4) : Int)
    · have hl : r.len mx = -1 := by simp [Rd.len, hm]
      rw [hl] at h3 h5
      simp [rdT, hm]
      refine call_intro (take_meets (r.skip 4) (-1)) ?_ ?_
      · simp [rdM]
      simp [rdM, h3, h5]
      refine post_end (.inr rfl) ?_
      simp [Rd.text, Rd.text', hl]
    · have hl : r.len mx = beVal (r.got 4) := by simp [Rd.len, hm]
      rw [hl] at h3 h5
      simp [rdT, hm]
      refine call_intro (take_meets (r.skip 4) (beVal (r.got 4) : Nat)) ?_ ?_
      · simp [rdM]
      simp [rdM, h3, h5]
      refine post_end (.inr rfl) ?_
      simp [Rd.text, Rd.text', hl]

end Go.Proofs.YtbmdaaehogpeeaaDoor.WL

end
section
/-
  CHAPTER 01: contracts of the writer.
-/
namespace Go.Proofs.YtbmdaaehogpeeaaDoor.WL
open Go
set_option maxHeartbeats 4000000

/-- A writer that holds these bytes. -/
def wrM (g : Nat) (bs : Bytes) : List (Nat × Loc) := [(1000, .var 0 (.node [.row 2000 1 g 0 bs.length])), (2000, .rows g 1 (B bs))]

theorem bytes_meets {G : Nat → Option AV} (bs : Bytes) (hb : bs.length ≤ 67108864) :
    Meets Tryd.prog G fn_code_Writer_Bytes [.ptr 1000 0 0] (wrM 0 bs) true (.row 3000 1 1 0 bs.length) (wrM 1 bs ++ [(3000, .rows 1 1 (B bs))]) := by
  refine meets_of_go mix k_code_Writer_Bytes ⟨by simp [wrM], by simp [wrM], by simp [wrM]⟩ ?_
  have h1 : fitsB bs.length 1 := fits (by omega) (by omega)
  simp [wrM, h1]
  refine post_end (.inr rfl) ?_
  simp

/-- The writer's state in a loop: its stamp, its length, its bytes. -/
abbrev WrA := Nat × Nat × Bytes
def wrA (a : WrA) : List (Nat × Loc) := [(1000, .var 0 (.node [.row 2000 1 a.1 0 a.2.1])), (2000, .rows a.1 1 (B a.2.2))]

theorem wnum_meets {G : Nat → Option AV} (bs : Bytes) (ns : List Int) (hb : bs.length + 8 * ns.length ≤ 67108864) :
    Meets Tryd.prog G fn_code_Writer_Num [.ptr 1000 0 0, .sl 1 (I64 ns)] (wrM 0 bs) true (.tup []) (wrM 1 (bs ++ nums ns)) := by
  refine meets_of_go mix k_code_Writer_Num ⟨by simp [wrM], by simp, by simp [wrM]⟩ ?_
  simp [wrM]
  refine go_up ns.length (fun j (a : WrA) => match a with | (_, n, x) => n = x.length ∧ x = bs ++ nums (ns.take j)) (fun j a c => ⟨[(0, .ptr 1000 0 0), (9, .sl 1 (I64 ns)), (10, .v (.int .i64 (ns.length : Nat))), (11, .v (.int .i64 (j : Nat)))], wrA a, c⟩)
    (0, bs.length, bs) _ (Weak.refl _) (by simp [nums]) ?_ ?_
  · rintro j ⟨g, n, L⟩ c hj ⟨rfl, hL⟩
    simp [hj, wrA]
    refine go_up 8 (fun t (a : WrA) => match a with | (_, n, x) => n = x.length ∧ x = L ++ (be8 ns[j]).take t) (fun t a c => ⟨[(0, .ptr 1000 0 0), (5, .v (.int .i64 ns[j])), (6, .v (.int .i64 (56 - 8 * (t : Int)))), (9, .sl 1 (I64 ns)), (10, .v (.int .i64 (ns.length : Nat))), (11, .v (.int .i64 (j : Nat)))], wrA a, c⟩)
      (g, L.length, L) _ (Weak.refl _) (by simp) ?_ ?_
    · rintro t ⟨g', n', L'⟩ c' ht ⟨rfl, hL'⟩
      have h8 : 8 * (t : Int) ≤ 56 := by omega
      have h0 : (0 : Int) ≤ 56 - 8 * (t : Int) := by omega
      have hmin : min (56 - 8 * (t : Int)).toNat 64 = 56 - 8 * t := by omega
      have hw : IntKind.i64.wrap (56 - 8 * (t : Int) - 8) = 56 - 8 * ((t + 1 : Nat) : Int) := by rw [w64_id (by omega)]; omega
      have hLl : L'.length ≤ 67108863 := by
        rw [hL', hL]
        simp only [List.length_append, nums_length, List.length_take, be8_length]
        omega
      have hm1 : fitsB (L'.length + 1) 1 := fits (by omega) (by omega)
      simp [wrA, h8, hmin, hw, hm1, bv_u8, be8_u64 _ _ ht, B_snoc]
      exact ⟨(_, _, _), _, (Weak.keep [1000, 2000] _ _ _).trans (Weak.refl _), by simp, by rw [hL', be8_take _ _ ht, List.append_assoc]⟩
    · rintro ⟨g', n', L'⟩ c' ⟨rfl, hL'⟩
      have hw : IntKind.i64.wrap ((j : Int) + 1) = ((j + 1 : Nat) : Int) := w64_succ (by omega)
      simp [wrA, hw]
      exact ⟨(_, _, _), _, Weak.refl _, rfl, by rw [hL', hL, nums_snoc _ _ hj, List.append_assoc, List.take_of_length_le (l := be8 ns[j]) (by simp)]⟩
  · rintro ⟨g, n, L⟩ c ⟨rfl, hL⟩
    have : L = bs ++ nums ns := by rw [hL]; simp
    subst this
    simp [wrA]
    refine post_end (.inl rfl) ?_
    simp

theorem wdigest_meets {G : Nat → Option AV} (bs : Bytes) (ds : List Dg) (hb : bs.length + 32 * ds.length ≤ 67108864) :
    Meets Tryd.prog G fn_code_Writer_Digest [.ptr 1000 0 0, .sl 32 (Dgs ds)] (wrM 0 bs) true (.tup []) (wrM 1 (bs ++ flatD ds)) := by
  refine meets_of_go mix k_code_Writer_Digest ⟨by simp [wrM], by simp, by simp [wrM]⟩ ?_
  simp [wrM]
  refine go_up ds.length (fun j (a : WrA) => match a with | (_, n, x) => n = x.length ∧ x = bs ++ flatD (ds.take j)) (fun j a c => ⟨[(0, .ptr 1000 0 0), (8, .sl 32 (Dgs ds)), (9, .v (.int .i64 (ds.length : Nat))), (10, .v (.int .i64 (j : Nat)))], wrA a, c⟩)
    (0, bs.length, bs) _ (Weak.refl _) (by simp [flatD]) ?_ ?_
  · rintro j ⟨g, n, L⟩ c hj ⟨rfl, hL⟩
    have hLl : L.length + 32 ≤ 67108864 := by rw [hL, List.length_append, flatD_length, List.length_take]; omega
    have hm1 : fitsB (L.length + 32) 1 := fits (by omega) (by omega)
    have hw : IntKind.i64.wrap ((j : Int) + 1) = ((j + 1 : Nat) : Int) := w64_succ (by omega)
    simp [wrA, hj, hm1, hw]
    exact ⟨(_, _, _), _, (Weak.keep [1000, 2000] _ _ _).trans (Weak.refl _), by simp, by rw [hL, flatD_snoc _ _ hj, List.append_assoc]⟩
  · rintro ⟨g, n, L⟩ c ⟨rfl, hL⟩
    have : L = bs ++ flatD ds := by rw [hL]; simp
    subst this
    simp [wrA]
    refine post_end (.inl rfl) ?_
    simp

theorem wtext_meets {G : Nat → Option AV} (bs : Bytes) (ss : List Bytes) (hb : bs.length + (txts ss).length ≤ 67108864) (hn : ss.length ≤ 67108864) :
    Meets Tryd.prog G fn_code_Writer_Text [.ptr 1000 0 0, .sl 1 (Strs ss)] (wrM 0 bs) true (.tup []) (wrM 1 (bs ++ txts ss)) := by
  refine meets_of_go mix k_code_Writer_Text ⟨by simp [wrM], by simp, by simp [wrM]⟩ ?_
  simp [wrM]
  refine go_up ss.length (fun j (a : WrA) => match a with | (_, n, x) => n = x.length ∧ x = bs ++ txts (ss.take j)) (fun j a c => ⟨[(0, .ptr 1000 0 0), (9, .sl 1 (Strs ss)), (10, .v (.int .i64 (ss.length : Nat))), (11, .v (.int .i64 (j : Nat)))], wrA a, c⟩)
    (0, bs.length, bs) _ (Weak.refl _) (by simp [txts]) ?_ ?_
  · rintro j ⟨g, n, L⟩ c hj ⟨rfl, hL⟩
    have hsz := txts_take_le ss (j + 1)
    rw [txts_snoc _ _ hj, List.length_append, txt_length] at hsz
    have hLl : L.length + (4 + ss[j].length) ≤ 67108864 := by rw [hL, List.length_append]; omega
    have hm1 : fitsB (L.length + 4) 1 ∧ fitsB (L.length + 4 + ss[j].length) 1 := ⟨fits (by omega) (by omega), fits (by omega) (by omega)⟩
    have hw : IntKind.i64.wrap ((j : Int) + 1) = ((j + 1 : Nat) : Int) := w64_succ (by omega)
    simp [wrA, hj, hm1, hw, bv_u8]
    exact ⟨(_, _, _), _, (Weak.keep [1000, 2000] _ _ _).trans (Weak.refl _), by simp; omega, by rw [hL, txts_snoc _ _ hj]; simp [txt, be4]⟩
  · rintro ⟨g, n, L⟩ c ⟨rfl, hL⟩
    have : L = bs ++ txts ss := by rw [hL]; simp
    subst this
    simp [wrA]
    refine post_end (.inl rfl) ?_
    simp

end Go.Proofs.YtbmdaaehogpeeaaDoor.WL

end
section
/-
  CHAPTER 09: contracts of requests.
-/
namespace Go.Proofs.YtbmdaaehogpeeaaDoor.WL
open Go
set_option maxHeartbeats 4000000
variable {G : Nat → Option AV}

theorem I64_4 (a b c d : Int) : [AV.v (.int .i64 a), .v (.int .i64 b), .v (.int .i64 c), .v (.int .i64 d)] = I64 [a, b, c, d] := (rfl)
theorem Dgs_1 (a : Dg) : [AV.arr 1 (B a.bs)] = Dgs [a] := (rfl)
end Go.Proofs.YtbmdaaehogpeeaaDoor.WL

end
