/- Texts put together: S06i, S06c, S06d, S06e, L06a, T02. -/
import Derived.Test.YtphggannefpleaaDoorWm8
import Derived.WalkKit
import Derived.Maps.Ext
import Derived.Maps.RangeWalk
import Derived.Laws.IdiomRangeMap
import Derived.Deep.LoopGhost
import Derived.Shelf.Abstract
import Derived.Test.YtphggannefpleaaDoorRows
import Derived.ProofKit
import Derived.LaidMore
import Derived.Lib.LaidTab
section
/-
  CHAPTER 06: Ring.Keys' contract.
-/
namespace Go.Proofs.YtphggannefpleaaDoor.WL
open Go Go.Proofs Go.RowKit Go.Shelf
set_option maxHeartbeats 4000000
attribute [local irreducible] comp hb sha leafD pairD secD shutD wholeD pubD ofD leavesD

section
variable {w0 : World} {Ws I0 : Nat → Prop} {C : Ctx}
/-- A new slice of things of k cells that are known. -/
theorem WR.newSlK (h : WR w0 Ws I0 C) {w' : World} (hg : C.w.grownBy w' none) {base : Nat} (hbase : C.w.heap.size ≤ base) {T : TypeId} {k : Nat} {v : Value} {es : List AV} {cs : List Value} (hrow : w'.ownsRow base T k v es.length cs) (hE : Es C k es cs) :
    ∃ C', C.Le C' ∧ WR w0 Ws I0 C' ∧ C'.w = w' ∧ C'.m = C.m ∧ (∀ k, C'.used k ↔ C.used k) ∧ SV C' (.sl k es) v := by
  obtain ⟨hcl, ⟨rfl, h0⟩ | ⟨gb, cap, cur, rfl, h1, h2, h3, h4, h5, h6⟩⟩ := hrow
  · obtain ⟨k1, k2⟩ := h.world hg
    obtain rfl : es = [] := List.length_eq_zero_iff.1 h0
    refine ⟨_, k1, k2, rfl, rfl, fun _ => Iff.rfl, none, 0, [], rfl, by simp, by simp, rfl, .inl rfl⟩
  · have hlt : gb < w'.heap.size := by
      rcases Nat.lt_or_ge gb w'.heap.size with h | h
      · exact h
      · rw [Array.getElem?_eq_none h] at h2; cases h2
    obtain ⟨k1, k2⟩ := h.newI hg (Nat.le_trans hbase h1) hlt
    refine ⟨_, k1, k2, rfl, rfl, fun _ => Iff.rfl, some ⟨gb, 0, none⟩, cap, cs, rfl, h3, h4, Es_mono k1 k es cs hE, .inr ⟨gb, 0, rfl, .inr rfl, fun j u hu => ?_⟩⟩
    have hj : j < es.length * k := by
      have := (List.getElem?_eq_some_iff.1 hu).1
      rw [Es_length hE] at this
      exact this
    have : cur.toList[j]? = some u := by
      rw [← h6, List.getElem?_take_of_lt (by omega)] at hu
      exact hu
    simp only [World.cell?, h2]
    simpa using this
end

theorem mem_one {α : Type} {es : Array α} {x : α} (h : es.toList = [x]) : ∀ y ∈ es.toList, y = x := fun y hy => by rw [h] at hy; simpa using hy

/-- Keys, of a map with these entries. -/
theorem keys_gen (ents : List AV) (ck : Nat) (M : List (Nat × Loc)) (ks : List AV) (hl1 : look M 1000 = some (.var 0 (.node [.oref 1001 0 true]))) (hl2 : look M 1001 = some (.ob 0 (.map true 33 false 1) (.node [.node ents, .v (.int .i64 (ck : Nat))])))
    (hg : goodM false M M = true ∧ goodA false M (.sl 33 ks) = true ∧ (M.map (·.1)).Nodup)
    (hcase : (ents = [] ∧ ks = []) ∨ ∃ k p, ents = [entA k (.ptr p 0 0) 0] ∧ ks = [k] ∧ ck = 1 ∧ closed k = true ∧ k.size = 33) :
    Meets Tryd.prog Gt 19 [.ptr 1000 0 0] M false (.sl 33 ks) M := by
  refine ⟨hg, fun C Ws ys hw hm hu hG hv => ?_⟩
  obtain ⟨y, r, rfl, hy, hr⟩ := hv
  obtain rfl : r = [] := hr
  have hm1 : C.m 1000 = some (.var 0 (.node [.oref 1001 0 true])) := by rw [hm]; exact hl1
  have hm2 : C.m 1001 = some (.ob 0 (.map true 33 false 1) (.node [.node ents, .v (.int .i64 (ck : Nat))])) := by rw [hm]; exact hl2
  obtain ⟨a, ea, _, ka⟩ := hy
  obtain rfl : y = .pointer (some a) := by simpa using ea
  obtain ⟨R, hR, rfl⟩ := ka _ hm1
  obtain ⟨R', cur, T, e1, e2, e3⟩ := hw.locs 1000 _ hm1
  obtain rfl : R = R' := by rw [hR] at e1; exact Option.some.inj e1
  have hRs := (hw.own 1000 _ R hm1 hR).1
  obtain ⟨c1, c2, e4, ⟨rr, rfl, hus, hob⟩, e5⟩ := e3
  obtain rfl : c2 = [] := e5
  have hcur : cur = #[.map (some rr)] := by apply Array.ext'; simpa [objRef] using e4
  have hcellR : C.w.cell? ⟨R, 0, none⟩ = some (.map (some rr)) := by
    unfold World.cell?
    rw [show C.w.heap[(⟨R, 0, none⟩ : Addr).block]? = _ from e2, hcur]
    rfl
  obtain ⟨b, es, clock, ps, hbq, hblk, hheap, hlist, hlens, hV, hcv⟩ := map_open hw (x := .map (some rr)) (l := 1001) (g := 0) ⟨rr, rfl, hus, hob⟩ hm2
  obtain rfl : rr = b := by simpa using hbq
  have hck : clock = ck := by
    have := (Value.int.inj hcv).2
    omega
  subst hck
  have hbs := lt_heap hheap
  suffices hS : ∃ cs : Array Value, cs.size = 33 ∧ cs.all (·.oneCell') = true ∧ (∀ x ∈ es.toList, x.key = .agg cs) ∧ es.size ≤ 1 ∧ Borns es clock ∧ es.size = ks.length ∧ Es C 33 ks (List.replicate es.size cs.toList).flatten by
    obtain ⟨cs, hcs, h1, hkv, hle, hB, hlen, hE⟩ := hS
    have hcall := (callsIn_wide (n := 5)).1 (ringKeys_in 5 (by omega) R rr es clock hB cs hcs h1 hkv hle C.w hcellR hRs hheap hbs)
    refine Calls.mono hcall ?_
    rintro e w' ⟨v, rfl, hrow, hbel⟩
    have hgr : C.w.grownBy w' none := ⟨hbel.os, hbel.tape, hbel.output, hbel.size, fun k hk _ => hbel.block k hk⟩
    rw [hlen] at hrow
    rw [hlen] at hE
    obtain ⟨C', h1, h2, h3, h4, h5, h6⟩ := hw.newSlK hgr (Nat.le_refl _) hrow hE
    exact ⟨v, C', rfl, h3, h1, h2, h4.trans hm, h6⟩
  rcases hcase with ⟨rfl, rfl⟩ | ⟨k, p, rfl, rfl, rfl, hkc, hks⟩
  · have hps : ps = [] := by
      cases ps with
      | nil => rfl
      | cons q qs => simp [Vs, entCells] at hV
    subst hps
    have hes : es = #[] := by apply Array.ext'; simpa using hlist
    subst hes
    exact ⟨Array.replicate 33 (.int .u8 0), by simp, by decide +kernel, by simp, by simp, ⟨by simp, by simp⟩, rfl, rfl⟩
  · obtain ⟨hlen, hent⟩ := ents_of (by simp [hks]) hlens hV
    match ps, hlen with
    | [q], _ =>
      have hev := hent 0 _ q rfl rfl
      have hk := hev.k
      have hbn := hev.b
      simp only [entK, entB, entA, V] at hk hbn
      have hq0 : q.2.2 = 0 := by
        have := hbn.1
        simp only [List.cons.injEq, Value.int.injEq, true_and, and_true] at this
        omega
      have hes : es.toList = [entOf true false q] := by rw [hlist]; rfl
      have hsz : es.size = 1 := by
        have := congrArg List.length hes
        simpa using this
      have hone := V_oneCell _ _ hk
      have hq33 : q.1.length = 33 := by rw [V_size _ _ hk, hks]
      refine ⟨q.1.toArray, by simp [hq33], by simpa using hone, fun x hx => ?_, by omega, ⟨fun x hx => ?_, ?_⟩, by simp [hsz], ?_⟩
      · rw [mem_one hes x hx]; rfl
      · rw [mem_one hes x hx]
        show q.2.2 < 1
        omega
      · rw [hes]; simp
      · rw [hsz]
        refine ⟨q.1, [], by simp, hq33, hk, rfl⟩
theorem keys_none (ck : Nat) : Meets Tryd.prog Gt 19 [.ptr 1000 0 0] (rg0 0 ck) false (.sl 33 []) (rg0 0 ck) :=
  keys_gen [] ck _ [] rfl rfl ⟨by simp [rg0], by simp, by simp [rg0]⟩ (.inl ⟨rfl, rfl⟩)
theorem keys_meets (t : One) : Meets Tryd.prog Gt 19 [.ptr 1000 0 0] (rgM 0 0 t) false (.sl 33 [keyA t.root t.h]) (rgM 0 0 t) :=
  keys_gen [entA (keyA t.root t.h) (.ptr 1002 0 0) 0] 1 _ _ rfl rfl ⟨by simp [rgM], by simp [keyA], by simp [rgM]⟩ (.inr ⟨_, _, rfl, rfl, rfl, keyA_closed _ _, by simp [keyA]⟩)
end Go.Proofs.YtphggannefpleaaDoor.WL

end
section
/-
  CHAPTER 06: maps.DeleteFunc over a map of numbers, raw: which entries stay, with their stamps.
-/
namespace Go.Proofs.YtphggannefpleaaDoor.WL
open Go Go.Proofs Go.RowKit

theorem mapInt_key : chkSh Tryd.prog (.int .i64) 3 = true := by kernel_rfl

set_option maxHeartbeats 4000000 in
set_option maxRecDepth 100000 in
theorem delF_calls (K : List (Int × Nat)) (clock b g : Nat) (cb : Array Value) (pd : Int → Bool) (ok : OpOk K clock) (w : World)
    (eg : ∀ args w, (callFunc g args).run Tryd.prog w = .ok (.enter g args) w) (hb : w.heap[b]? = some (.map (opR K) clock))
    (hdel : ∀ (W : World) (n : Int), w.grownBy W (some b) → Calls Tryd.prog g (#[.int .i64 n, .bool true] ++ cb) W fun e w' => e = .returned (.bool (pd n)) ∧ W.grownBy w' none) :
    Calls Tryd.prog 35 #[.map (some b), .func (.func g) #[] cb] w fun e w' =>
      e = .returned (.tuple #[]) ∧ w'.heap[b]? = some (.map (opR (K.filter fun q => !pd q.1)) clock) ∧ w.grownBy w' (some b) := by
  have mixed := mix
  have HD : Aside _ := hdel
  clear hdel
  go_enter Tryd.func35, Tryd.ntmps35
  go_wp2_with (first
    | (at_range; refine wpList_range_rawD _ rfl _ _ rfl _ _ Tryd.underlying71 b K clock rfl hb ?_; intro w0 hrg0 hg0 hs0)
    | go_in)
  go_frame
  go_loopw [8] (fun _ wr => ∃ (seen : List Nat), WalkD wr b w.heap.size clock (struckK pd K seen) seen ∧ w.grownBy wr (some b))
    (fun _ wr => leftD K wr w.heap.size)
  case atStart => exact ⟨[], by rw [struck_nil]; exact hrg0, hg0.but _⟩
  case round =>
    obtain ⟨seen, hrg, hgw⟩ := hrel
    have ok1 : OpOk (struckK pd K seen) clock := ok.filter _
    go_wp2_with (first
      | (at_next; refine wpList_next_rawD _ rfl _ rfl b w.heap.size clock _ seen ok1 rfl hrg ?_ ?_)
      | go_in)
    · intro hl0
      go_wp2
      go_end0
      exact ⟨rfl, by rw [← struck_end (fun p hp => hl0 p.1 p.2 hp)]; exact hrg.map, hgw⟩
    · intro n bn w1 hp1 hns hrg1 hg1 hs1 hen
      have hp := struck_mem hp1
      have hgw1 := hgw.andThen hg1 (fun j hj => by cases hj; exact Or.inl (Nat.le_refl _))
      have hc := HD.out w1 n hgw1
      have hll := left_lt (p := (n, bn)) hp hns
      cases hpd : pd n <;> rw [hpd] at hc
      · go_wp2_with (first
          | (go_at_fn g; refine hc.mono ?_; rintro e w2 ⟨rfl, hg2⟩)
          | go_in)
        have hrg2 := hrg1.grown hg2
        go_roundw
        case rel => exact ⟨_, by rw [struck_stays (p := (n, bn)) ok hp hpd]; exact hrg2, hgw1.andThen hg2 (fun j hj => by cases hj)⟩
        case measure => rw [hrg2.leftD, hrg.leftD]; exact hll
      · go_wp2_with (first
          | (go_at_fn g; refine hc.mono ?_; rintro e w2 ⟨rfl, hg2⟩; have hrg2 := hrg1.grown hg2)
          | (at_delete; refine wpList_delete_rawD _ rfl _ _ _ _ rfl _ Tryd.underlying71 mapInt_key b w.heap.size clock _ _ ok1 rfl hrg2 (n, bn) hp1 rfl ?_; intro w3 hrg3 hg3 hs3; go_frame)
          | go_in)
        have e3 := struck_goes (seen := seen) ok hp hpd
        rw [e3] at hrg3
        go_roundw
        case rel => exact ⟨_, hrg3, (hgw1.andThen hg2 (fun j hj => by cases hj)).andThen hg3 (fun j hj => by cases hj; exact Or.inr rfl)⟩
        case measure => rw [hrg3.leftD, hrg.leftD]; exact hll
end Go.Proofs.YtphggannefpleaaDoor.WL

end
section
/-
  CHAPTER 06: Skip, by hand where it strikes.
-/
namespace Go.Proofs.YtphggannefpleaaDoor.WL
open Go Go.Proofs Go.RowKit
set_option maxHeartbeats 4000000

noncomputable def sqL : Code → Code
  | .seq a _ => a
  | c => c
noncomputable def sqR : Code → Code
  | .seq _ b => b
  | c => c
noncomputable def sqO : Code → Array Oper
  | .region _ ops _ => ops
  | _ => #[]
noncomputable def kBody : Code := match Tryd.f16.body with
  | some c => c
  | none => .skip
theorem k_body : Tryd.f16.body = some kBody := by kernel_rfl
noncomputable def kb1 : Code := sqR kBody
noncomputable def kb2 : Code := sqR kb1
noncomputable def kb3 : Code := sqR kb2
noncomputable def kb4 : Code := sqR kb3
noncomputable def kb5 : Code := sqR kb4
noncomputable def opsK : Array Oper := sqO (sqL kb4)
theorem k_seq : kBody = .seq (sqL kBody) (.seq (sqL kb1) (.seq (sqL kb2) (.seq (sqL kb3) (.seq (.region 5 opsK false) kb5)))) := by kernel_rfl
theorem opsK_size : opsK.size = 6 := by kernel_rfl
theorem opsK_0 : opsK[0]? = some (opsK[0]!) := by kernel_rfl
theorem opsK_1 : opsK[1]? = some (opsK[1]!) := by kernel_rfl
theorem opsK_2 : opsK[2]? = some (opsK[2]!) := by kernel_rfl
theorem opsK_3 : opsK[3]? = some (opsK[3]!) := by kernel_rfl
theorem opsK_c0 : chkOper Tryd.prog opsK 37 (opsK[0]!) ⟨some 31, .mov, [.t 7], none⟩ = true := by kernel_rfl
theorem opsK_c1 : chkOper Tryd.prog opsK 37 (opsK[1]!) ⟨some 32, .nilc, [.t 31], none⟩ = true := by kernel_rfl
theorem opsK_c2 : chkOper Tryd.prog opsK 37 (opsK[2]!) ⟨some 33, .faddr 2 1 false, [.t 32], none⟩ = true := by kernel_rfl
theorem opsK_c3 : chkOper Tryd.prog opsK 37 (opsK[3]!) ⟨some 34, .load false 1, [.t 33], none⟩ = true := by kernel_rfl
theorem opsK_4 : ∃ t p af, opsK[4]? = some ⟨some 35, .makeFunc (.func 36) #[] #[.tmp 5], t, p, af, none⟩ := by
  have h : opsK[4]? = some (opsK[4]!) := by kernel_rfl
  have h2 : opsK[4]! = ⟨some 35, .makeFunc (.func 36) #[] #[.tmp 5], (opsK[4]!).type, (opsK[4]!).pos, (opsK[4]!).after, none⟩ := by kernel_rfl
  exact ⟨_, _, _, h.trans (congrArg some h2)⟩
theorem opsK_5 : ∃ t p af at', opsK[5]? = some ⟨some 36, .call { callee := .value (.func 35), args := #[.tmp 34, .tmp 35], argTypes := at' }, t, p, af, none⟩ := by
  have h : opsK[5]? = some (opsK[5]!) := by kernel_rfl
  have h2 : opsK[5]! = ⟨some 36, .call { callee := .value (.func 35), args := #[.tmp 34, .tmp 35], argTypes := #[71, 82] }, (opsK[5]!).type, (opsK[5]!).pos, (opsK[5]!).after, none⟩ := by kernel_rfl
  exact ⟨_, _, _, _, h.trans (congrArg some h2)⟩

/-- The closure: is a number below? -/
theorem below_calls (B : Nat) (n m : Int) (W : World) (hc : W.cell? ⟨B, 0, none⟩ = some (.int .i64 n)) :
    Calls Tryd.prog 36 (#[.int .i64 m, .bool true] ++ #[.pointer (some ⟨B, 0, none⟩)]) W fun e w' => e = .returned (.bool (decide (m < n))) ∧ W.grownBy w' none := by
  have mixed := mix
  show Calls Tryd.prog 36 #[.int .i64 m, .bool true, .pointer (some ⟨B, 0, none⟩)] W _
  go_enter Tryd.func36, Tryd.ntmps36
  go_wp2
  go_ret
  exact ⟨rfl, ⟨rfl, rfl, rfl, Nat.le_refl _, fun _ _ _ => rfl⟩⟩

section
variable {w0 : World} {Ws I0 : Nat → Prop} {G : Nat → Option AV} {C0 C : Ctx}
theorem opE_raw (hw : WR w0 Ws I0 C) {l g : Nat} {K : List (Int × Nat)} {ck : Nat} {y : Value} (hp : SV C (.oref l g true) y) (hm : C.m l = some (.ob g (.map false 1 false 1) (.node [.node (opE K), .v (.int .i64 (ck : Nat))]))) :
    ∃ b, y = .map (some b) ∧ C.blk l = some b ∧ C.w.heap[b]? = some (.map (opR K) ck) := by
  obtain ⟨r, es, clock, ps, rfl, hb, hheap, hlist, hlens, hV, hcv⟩ := map_open hw hp hm
  obtain ⟨hlen, hent⟩ := ents_of (opE_all K) hlens hV
  have hck : clock = ck := by
    have := (Value.int.inj hcv).2
    omega
  subst hck
  have hpl : ps.length = K.length := by rw [← hlen]; simp
  have hps : ps = opP K := by
    refine List.ext_getElem (by simp [opP, hpl]) fun i h1 h2 => ?_
    have hi : i < K.length := by omega
    have he : (opE K)[i]? = some (entA (.v (.int .i64 (K[i]).1)) (.v (.bool true)) ((K[i]).2 : Nat)) := by
      rw [opE_get, List.getElem?_eq_getElem hi]; rfl
    have hv := hent i _ _ he (List.getElem?_eq_getElem h1)
    have k1 := hv.k
    have k2 := hv.v
    have k3 := hv.b
    simp only [entK, entV, entB, entA, V] at k1 k2 k3
    have e3 : (ps[i]).2.2 = (K[i]).2 := by
      have := k3.1
      simp only [List.cons.injEq, Value.int.injEq, true_and, and_true] at this
      omega
    simp only [opP, List.getElem_map]
    exact Prod.ext k1.1 (Prod.ext k2.1 e3)
  have hes : es = opR K := by
    apply Array.ext'
    rw [hlist, hps]; simp [opR]
  subst hes
  exact ⟨r, rfl, hb, hheap⟩
theorem opP_V (C : Ctx) : ∀ (K : List (Int × Nat)), Vs C (opE K) ((opP K).flatMap entCells)
  | [] => rfl
  | p :: K => by
    refine ⟨entCells ([.int .i64 p.1], [.bool true], p.2), _, rfl, ?_, opP_V C K⟩
    exact V_ent (C := C) (k := .v (.int .i64 p.1)) (v := .v (.bool true)) (b := .v (.int .i64 ((p.2 : Nat) : Int))) ⟨rfl, rfl⟩ ⟨rfl, rfl⟩ ⟨rfl, rfl⟩

theorem skip_calls {K : List (Int × Nat)} {ck : Nat} (ok : OpOk K ck) {n : Int} {l g g5 clk : Nat} {s : AS} {a : Act} {rem : List Nat} {Q : Exit → Act → World → Prop} {Kt : Act → World → Prop}
    (hm : Mid w0 Ws I0 G C0 37 clk (clk + 6) rem s a C) (h34 : s.1 34 = some (.oref l g true)) (hl : s.2 l = some (.ob g (.map false 1 false 1) (.node [.node (opE K), .v (.int .i64 (ck : Nat))])))
    (h5 : s.1 5 = some (.ptr 5 g5 0)) (m5 : s.2 5 = some (.var g5 (.v (.int .i64 n))))
    (hK2 : ∀ a' C', Mid w0 Ws I0 G C0 37 clk (clk + 6) rem (upd (upd s.1 35 none) 36 none, upd s.2 l (some (.ob g (.map false 1 false 1) (.node [.node (opE (K.filter fun q => !decide (q.1 < n))), .v (.int .i64 (ck : Nat))])))) a' C' → Kt a' C'.w) :
    wpOp Tryd.prog opsK Q 4 (wpOp Tryd.prog opsK Q 5 Kt) a C.w := by
  obtain ⟨y, e34, v34⟩ := hm.fr 34 _ h34
  obtain ⟨y5, e5, v5⟩ := hm.fr 5 _ h5
  have hmm : C.m l = some (.ob g (.map false 1 false 1) (.node [.node (opE K), .v (.int .i64 (ck : Nat))])) := by rw [hm.m]; exact hl
  obtain ⟨b, rfl, hblk, hheap⟩ := opE_raw hm.wr v34 hmm
  obtain ⟨p5, q5, _, r5⟩ := v5
  obtain rfl : y5 = .pointer (some p5) := by simpa using q5
  have hm5 : C.m 5 = some (.var g5 (.v (.int .i64 n))) := by rw [hm.m]; exact m5
  obtain ⟨B, hB, rfl⟩ := r5 _ hm5
  obtain ⟨b', cur, T, k1, k2, k3⟩ := hm.wr.locs 5 _ hm5
  obtain rfl : B = b' := by rw [hB] at k1; exact Option.some.inj k1
  simp only [V] at k3
  have hcur : cur = #[.int .i64 n] := Array.ext' k3.1
  have hBb : B ≠ b := by
    rintro rfl
    rw [k2] at hheap
    cases hheap
  have hBw := (hm.wr.own 5 _ B hm5 hB).1
  have hsize := hm.size
  obtain ⟨t1, p1, af1, h1⟩ := opsK_4
  obtain ⟨t2, p2, af2, at2, h2⟩ := opsK_5
  obtain ⟨fv, hfv⟩ : ∃ fv, fv = Value.func (.func 36) #[] #[.pointer (some ⟨B, 0, none⟩)] := ⟨_, rfl⟩
  unfold wpOp
  rw [h1]
  simp only
  rw [if_pos (by rfl)]
  left
  unfold Oper.wp
  have run1 : (execOp a.eval ⟨some 35, .makeFunc (.func 36) #[] #[.tmp 5], t1, p1, af1, none⟩).run Tryd.prog C.w = .ok (.value fv) C.w := by
    have e : a.eval (.tmp 5) = .pointer (some ⟨B, 0, none⟩) := by
      show a.tmps.getD 5 undef = _
      rw [Array.getD_eq_getD_getElem?, e5]; rfl
    simp [execOp, Instr.makeFunc, e, hfv]
  rw [run1, Oper.upon_value]
  rw [h2]
  simp only
  rw [if_pos (by rfl)]
  left
  have eg : ∀ args w, (callFunc 36 args).run Tryd.prog w = .ok (.enter 36 args) w := enters_of Tryd.func36 (by kernel_rfl) rfl
  have eg2 : ∀ args w, (callFunc 35 args).run Tryd.prog w = .ok (.enter 35 args) w := enters_of Tryd.func35 (by kernel_rfl) rfl
  have run2 : (execOp (a.put (some 35) fv).eval ⟨some 36, .call { callee := .value (.func 35), args := #[.tmp 34, .tmp 35], argTypes := at2 }, t2, p2, af2, none⟩).run Tryd.prog C.w
      = .ok (.enter 35 #[.map (some b), fv]) C.w := by
    have e34' : (a.put (some 35) fv).eval (.tmp 34) = .map (some b) := by
      show Array.getD _ 34 undef = _
      rw [Array.getD_eq_getD_getElem?]
      simp only [Act.put]
      rw [Array.getElem?_setIfInBounds_ne (by decide), e34]; rfl
    have e35' : (a.put (some 35) fv).eval (.tmp 35) = fv := by
      show Array.getD _ 35 undef = _
      rw [Array.getD_eq_getD_getElem?]
      simp only [Act.put]
      rw [Array.getElem?_setIfInBounds_self_of_lt (by omega)]; rfl
    have e : execOp (a.put (some 35) fv).eval ⟨some 36, .call { callee := .value (.func 35), args := #[.tmp 34, .tmp 35], argTypes := at2 }, t2, p2, af2, none⟩ = callFunc 35 (#[] ++ #[Operand.tmp 34, .tmp 35].map (a.put (some 35) fv).eval) := rfl
    rw [e, eg2]
    simp [e34', e35']
  rw [run2, Oper.upon_enter]
  have hcall := delF_calls K ck b 36 #[.pointer (some ⟨B, 0, none⟩)] (fun m => decide (m < n)) ok C.w eg hheap (fun W m hg => below_calls B n m W (by
    have := hg.block B hBw (by simpa using hBb)
    unfold World.cell?
    rw [show W.heap[(⟨B, 0, none⟩ : Addr).block]? = some (.cells cur T (0, 0)) from this.trans k2, hcur]
    rfl))
  rw [← hfv] at hcall
  refine Calls.mono hcall ?_
  rintro ex w' ⟨rfl, hheap', hgr⟩
  dsimp only
  obtain ⟨hle, hput⟩ := hm.wr.putO (c' := .ob g (.map false 1 false 1) (.node [.node (opE (K.filter fun q => !decide (q.1 < n))), .v (.int .i64 (ck : Nat))])) hmm hblk hheap (fun _ _ _ e => by cases e) hgr (by simp [Loc.same])
  have hwr := hput ⟨b, _, _, hblk, hheap', ⟨opP (K.filter fun q => !decide (q.1 < n)), by simp [opR], (fun p hp => by
    obtain ⟨q, _, rfl⟩ := List.mem_map.1 hp
    exact ⟨rfl, rfl⟩), rfl⟩, by
    simp only [V, Vs]
    exact ⟨_, [.int .i64 (ck : Nat)], rfl, opP_V _ _, [.int .i64 (ck : Nat)], [], rfl, ⟨rfl, rfl⟩, rfl⟩⟩
  refine hK2 _ _ ⟨hwr, by rw [← hm.m], ?_, hm.gr.mono hle, hm.le.trans hle, ?_, ?_, hm.fresh, hm.top, hm.one⟩
  · intro u x hx
    dsimp only at hx ⊢
    by_cases e11 : u = 36
    · subst e11; simp at hx
    · rw [upd_other _ _ e11] at hx
      by_cases e10 : u = 35
      · subst e10; simp at hx
      · rw [upd_other _ _ e10] at hx
        obtain ⟨z, h1, h2⟩ := (hm.fr.mono hle) u x hx
        refine ⟨z, ?_, h2⟩
        simp only [Act.put]
        rw [Array.getElem?_setIfInBounds_ne (fun h => e11 h.symm), Array.getElem?_setIfInBounds_ne (fun h => e10 h.symm)]
        exact h1
  · simp [Act.put, hsize]
  · simp [Act.put, hm.defers]
end
end Go.Proofs.YtphggannefpleaaDoor.WL

end
section
/-
  CHAPTER 06: Skip's contract.
-/
namespace Go.Proofs.YtphggannefpleaaDoor.WL
open Go
set_option maxHeartbeats 8000000
attribute [local irreducible] comp hb sha leafD pairD secD shutD wholeD pubD ofD leavesD

@[simp] def a_ring_Ring_Skip_r0 : List COper := [
  ⟨(some 4), .box, [.t 1], none⟩,
  ⟨(some 5), .box, [.t 2], none⟩,
  ⟨(some 6), .mov, [.c (.int .i64 0)], none⟩]
def c_ring_Ring_Skip_r0 : List COper := a_ring_Ring_Skip_r0
instance : Reg c_ring_Ring_Skip_r0 a_ring_Ring_Skip_r0 3 := ⟨rfl, rfl⟩
@[simp] def a_ring_Ring_Skip_r1 : List COper := [
  ⟨(some 10), .mov, [.t 0], none⟩,
  ⟨(some 11), .load true 33, [.t 4], none⟩,
  ⟨(some 12), .call fn_ring_Ring_entry, [.t 10, .t 11], none⟩,
  ⟨(some 9), .mov, [.t 12], none⟩,
  ⟨(some 13), .ext 0, [.t 9], none⟩,
  ⟨(some 14), .ext 1, [.t 9], none⟩,
  ⟨(some 7), .mov, [.t 13], none⟩,
  ⟨(some 8), .mov, [.t 14], none⟩]
def c_ring_Ring_Skip_r1 : List COper := a_ring_Ring_Skip_r1
instance : Reg c_ring_Ring_Skip_r1 a_ring_Ring_Skip_r1 8 := ⟨rfl, rfl⟩
@[simp] def a_ring_Ring_Skip_r2 : List COper := [
  ⟨(some 15), .mov, [.t 8], none⟩,
  ⟨(some 16), .bin .neq, [.t 15, .c (.int .i64 0)], none⟩]
def c_ring_Ring_Skip_r2 : List COper := a_ring_Ring_Skip_r2
instance : Reg c_ring_Ring_Skip_r2 a_ring_Ring_Skip_r2 2 := ⟨rfl, rfl⟩
@[simp] def a_ring_Ring_Skip_r3 : List COper := [
  ⟨(some 17), .mov, [.t 8], none⟩,
  ⟨(some 6), .mov, [.t 17], none⟩]
def c_ring_Ring_Skip_r3 : List COper := a_ring_Ring_Skip_r3
instance : Reg c_ring_Ring_Skip_r3 a_ring_Ring_Skip_r3 2 := ⟨rfl, rfl⟩
@[simp] def a_ring_Ring_Skip_r4 : List COper := [
  ⟨(some 18), .mov, [.t 7], none⟩,
  ⟨(some 19), .mov, [.t 7], none⟩,
  ⟨(some 20), .nilc, [.t 19], none⟩,
  ⟨(some 21), .faddr 1 1 false, [.t 20], none⟩,
  ⟨(some 22), .load false 1, [.t 21], none⟩,
  ⟨(some 23), .load false 1, [.t 5], none⟩,
  ⟨(some 24), .faddr 32 1 false, [.t 4], none⟩,
  ⟨(some 25), .load false 1, [.t 24], none⟩,
  ⟨(some 26), .bin .shl, [.c (.int .i64 1), .t 25], none⟩,
  ⟨(some 27), .mn, [.t 23, .t 26], none⟩,
  ⟨(some 28), .mx, [.t 22, .t 27], none⟩,
  ⟨(some 29), .nilc, [.t 18], none⟩,
  ⟨(some 30), .faddr 1 1 false, [.t 29], none⟩,
  ⟨none, .store false 1, [.t 30, .t 28], none⟩]
def c_ring_Ring_Skip_r4 : List COper := a_ring_Ring_Skip_r4
instance : Reg c_ring_Ring_Skip_r4 a_ring_Ring_Skip_r4 14 := ⟨rfl, rfl⟩
@[simp] def a_ring_Ring_Skip_r6 : List COper := [
  ⟨(some 6), .mov, [.c (.int .i64 0)], none⟩]
def c_ring_Ring_Skip_r6 : List COper := a_ring_Ring_Skip_r6
instance : Reg c_ring_Ring_Skip_r6 a_ring_Ring_Skip_r6 1 := ⟨rfl, rfl⟩
def kc0 : CCode := .region c_ring_Ring_Skip_r0 none [0, 4, 5]
def kc1 : CCode := .region c_ring_Ring_Skip_r1 none [4, 5, 7, 8]
def kc2 : CCode := .seq (.region c_ring_Ring_Skip_r2 none [4, 5, 7, 8, 16]) (.cond (.t 16) (.seq (.region c_ring_Ring_Skip_r3 none [6]) (.ret)) (.skip))
def kc3 : CCode := .region c_ring_Ring_Skip_r4 (some ([0, 0, 2, 6, 14, 0, 0, 64, 192, 480, 1022, 2047, 4095, 8191], [])) [5, 7]
def kc5 : CCode := .seq (.region c_ring_Ring_Skip_r6 none [6]) (.ret)
theorem kchk0 : chkCode Tryd.prog 37 (sqL kBody) kc0 = true := by kernel_rfl
theorem kchk1 : chkCode Tryd.prog 37 (sqL kb1) kc1 = true := by kernel_rfl
theorem kchk2 : chkCode Tryd.prog 37 (sqL kb2) kc2 = true := by kernel_rfl
theorem kchk3 : chkCode Tryd.prog 37 (sqL kb3) kc3 = true := by kernel_rfl
theorem kchk5 : chkCode Tryd.prog 37 kb5 kc5 = true := by kernel_rfl

/-- What Skip makes of a tree. -/
def skipN (t : One) (n : Int) : Int := if (t.nx : Int) < (if ((2 ^ t.h : Nat) : Int) < n then ((2 ^ t.h : Nat) : Int) else n) then (if ((2 ^ t.h : Nat) : Int) < n then ((2 ^ t.h : Nat) : Int) else n) else (t.nx : Int)
def skipT (t : One) (n : Int) : One := { t with nx := (skipN t n).toNat, K := t.K.filter fun p => !decide (p.1 < n) }
theorem skipN_nat (t : One) (n : Int) : ((skipN t n).toNat : Int) = skipN t n := by
  unfold skipN
  split
  · split <;> omega
  · omega

def kM (t : One) (n : Int) : List (Nat × Loc) := (4, .var 2 (keyA t.root t.h)) :: (5, .var 3 (.v (.int .i64 n))) :: rgM 0 0 t
def kS1 (t : One) (n : Int) : SA := ⟨[(0, .ptr 1000 0 0), (4, .ptr 4 2 0), (5, .ptr 5 3 0)], kM t n, 5⟩
def kS2 (t : One) (n : Int) : SA := ⟨[(4, .ptr 4 2 0), (5, .ptr 5 3 0), (7, .ptr 1002 0 0), (8, .v (.int .i64 0))], kM t n, 13⟩
def kS3 (t : One) (n : Int) : SA := ⟨[(4, .ptr 4 2 0), (5, .ptr 5 3 0), (7, .ptr 1002 0 0), (8, .v (.int .i64 0)), (16, .v (.bool false))], kM t n, 15⟩
def kS4 (t : One) (n : Int) : SA := ⟨[(5, .ptr 5 3 0), (7, .ptr 1002 0 0)], kM { t with nx := (skipN t n).toNat } n, 29⟩
def kS5 (t : One) (n : Int) : SA := ⟨[], kM (skipT t n) n, 35⟩
theorem ka0 (t : One) (n : Int) : awp Tryd.prog Gt kc0 (fun e S => e = .normal ∧ S = kS1 t n) ⟨argsL 0 [.ptr 1000 0 0, keyA t.root t.h, .v (.int .i64 n)], rgM 0 0 t, 2⟩ := by
  refine awp_go ?_
  simp [kc0, rgM, keyA]
  rfl
theorem ka1 (t : One) (n : Int) : awp Tryd.prog Gt kc1 (fun e S => e = .normal ∧ S = kS2 t n) (kS1 t n) := by
  refine awp_go ?_
  have m1 := entry_meets t
  have htc := trA_closed t.seed t.h t.ls
  simp [kc1, kS1, kM, rgM, keyA]
  refine call_intro m1 ?_ ?_
  · simp [rgM, keyA, htc]
  simp [rgM, keyA, htc]
  rfl
theorem ka2 (t : One) (n : Int) : awp Tryd.prog Gt kc2 (fun e S => e = .normal ∧ S = kS3 t n) (kS2 t n) := by
  refine awp_go ?_
  simp [kc2, kS2]
  rfl
theorem ka3 (t : One) (n : Int) (hh : t.h ≤ 6) : awp Tryd.prog Gt kc3 (fun e S => e = .normal ∧ S = kS4 t n) (kS3 t n) := by
  refine awp_go ?_
  have hmin : min t.h 64 = t.h := by omega
  have hN := skipN_nat t n
  unfold kS4
  rw [show kM { t with nx := (skipN t n).toNat } n = (4, Loc.var 2 (keyA t.root t.h)) :: (5, .var 3 (.v (.int .i64 n))) :: [(1000, .var 0 (.node [.oref 1001 0 true])), (1001, .ob 0 (.map true 33 false 1) (.node [.node [entA (.node [dv t.root, .v (.int .i64 (t.h : Nat))]) (.ptr 1002 0 0) 0], .v (.int .i64 1)])),
   (1002, .var 0 (.node [.iptr (trA t.seed t.h t.ls), .v (.int .i64 (skipN t n)), .oref 1003 0 true])), (1003, .ob 0 (.map false 1 false 1) (.node [.node (opE t.K), .v (.int .i64 (t.ck : Nat))]))] by simp [kM, rgM, hN]]
  unfold skipN
  obtain ⟨q, hq⟩ : ∃ q : Nat, q = 2 ^ t.h := ⟨_, rfl⟩
  have hq64 : q ≤ 64 := by rw [hq]; exact Nat.le_trans (Nat.pow_le_pow_right (by omega) hh) (by decide)
  have hqi : ((2 : Int) ^ t.h) = (q : Int) := by rw [hq]; simp
  have w1 : IntKind.i64.wrap (q : Int) = (q : Int) := w64_id (by omega)
  rw [← hq]
  simp [kc3, kS3, kM, rgM, keyA, hmin, hqi, w1]
theorem ka5 (t : One) (n : Int) : awp Tryd.prog Gt kc5 (postA [.tmp 6] (.v (.int .i64 0)) (rgM 0 0 (skipT t n))) (kS5 t n) := by
  refine awp_go ?_
  have htc := trA_closed (skipT t n).seed (skipT t n).h (skipT t n).ls
  simp [kc5, kS5, kM, rgM, keyA]
  refine post_end (.inr rfl) ?_
  simp [htc]

theorem wpOps_fk {P : Program} {ops : Array Oper} {Q : Exit → Act → World → Prop} (i : Nat) (rest : List Nat) : wpOps P ops Q (i :: rest) = wpOp P ops Q i (wpOps P ops Q rest) := by
  funext a w
  exact wpOps_cons i rest a w
section
variable {w0 : World} {Ws I0 : Nat → Prop} {C0 : Ctx}
theorem k_mid {t : One} {n : Int} (ok : OpOk t.K t.ck) {a : Act} {w : World} {Q : Exit → Act → World → Prop} (hr : Rel w0 Ws I0 Gt C0 37 (kS4 t n) a w)
    (hK : ∀ a' w', Rel w0 Ws I0 Gt C0 37 (kS5 t n) a' w' → Q .normal a' w') : (Code.region 5 opsK false).wp Tryd.prog Q a w := by
  refine wp_region ?_
  rw [opsK_size, show List.range 6 = [0, 1, 2, 3, 4, 5] from rfl]
  rw [wpOps_fk, wpOps_fk, wpOps_fk, wpOps_fk, wpOps_fk, wpOps_fk]
  obtain ⟨hk, C, rfl, hm⟩ := hr
  have hm0 := Rel.start (n := 6) hk hm [0, 1, 2, 3]
  refine mid_op (rd := []) (us := []) (av := .ptr 1002 0 0) opsK_0 opsK_c0 (by decide) (by simp) (by simp [kS4]) (by simp [kS4]) hm0 (.inr ⟨rfl, [.ptr 1002 0 0], rfl, rfl, rfl⟩) fun a1 C1 h1 => ?_
  refine mid_op (rd := []) (us := []) (av := .ptr 1002 0 0) opsK_1 opsK_c1 (by decide) (by simp) (by simp [kS4]) (by simp [kS4]) h1 (.inr ⟨rfl, [.ptr 1002 0 0], rfl, rfl, rfl⟩) fun a2 C2 h2 => ?_
  refine mid_op (rd := []) (us := []) (av := .ptr 1002 0 2) opsK_2 opsK_c2 (by decide) (by simp) (by simp [kS4]) (by simp [kS4]) h2 (.inr ⟨rfl, [.ptr 1002 0 0], rfl, rfl, rfl⟩) fun a3 C3 h3 => ?_
  refine mid_op (rd := [1002]) (us := []) (av := .oref 1003 0 true) opsK_3 opsK_c3 (by decide) (by simp) (by simp [kS4]) (by simp [kS4]) h3 (.inr ⟨rfl, [.ptr 1002 0 2], rfl, by rfl, rfl⟩) fun a4 C4 h4 => ?_
  refine skip_calls (K := t.K) (ck := t.ck) ok (n := n) (l := 1003) (g := 0) (g5 := 3) h4 rfl rfl rfl rfl fun a5 C5 h5 => ?_
  refine hK _ _ ⟨by simp [kS5], C5, rfl, h5.wr, h5.m.trans ?_, (fun t x hx => by simp [kS5, look] at hx), h5.gr, h5.le, h5.size, h5.defers, by simp, fun k hk => h5.top k hk, h5.one⟩
  funext l
  simp only [kS5, kM, rgM, skipT, look]
  by_cases h3 : l = 1003
  · subst h3; simp
  · rw [upd_other _ _ h3]
    have : ¬ 1003 = l := fun e => h3 e.symm
    simp [AS.after, setd, ups, kS4, kM, rgM, look, this]
end
theorem skip_meets (t : One) (n : Int) (hh : t.h ≤ 6) (ok : OpOk t.K t.ck) : Meets Tryd.prog Gt 16 [.ptr 1000 0 0, keyA t.root t.h, .v (.int .i64 n)] (rgM 0 0 t) false (.v (.int .i64 0)) (rgM 0 0 (skipT t n)) := by
  have hf : Tryd.prog.funcs[16]? = some Tryd.f16 := by kernel_rfl
  have hnt : Tryd.f16.ntmps = 37 := by kernel_rfl
  refine meets_of_wp (rs := [.tmp 6]) hf k_body (by kernel_rfl) (by rw [hnt]; simp) ⟨by simp [rgM], by simp, by simp [rgM]⟩ fun w0 Ws I0 C0 a w hr => ?_
  rw [hnt] at hr ⊢
  rw [k_seq]
  refine wp_seq (wp_mono (awp_ok mix kchk0 (ka0 t n) hr) ?_)
  rintro e a1 w1 ⟨S1, ⟨rfl, rfl⟩, h1⟩
  refine wp_seq (wp_mono (awp_ok mix kchk1 (ka1 t n) h1) ?_)
  rintro e a2 w2 ⟨S2, ⟨rfl, rfl⟩, h2⟩
  refine wp_seq (wp_mono (awp_ok mix kchk2 (ka2 t n) h2) ?_)
  rintro e a3 w3 ⟨S3, ⟨rfl, rfl⟩, h3⟩
  refine wp_seq (wp_mono (awp_ok mix kchk3 (ka3 t n hh) h3) ?_)
  rintro e a4 w4 ⟨S4, ⟨rfl, rfl⟩, h4⟩
  refine wp_seq (k_mid ok h4 fun a5 w5 h5 => ?_)
  exact awp_ok mix kchk5 (ka5 t n) h5
end Go.Proofs.YtphggannefpleaaDoor.WL

end
section
/-
  CHAPTER 06: walks of laws.
-/
namespace Go.Proofs.YtphggannefpleaaDoor.WL
open Go
set_option maxHeartbeats 8000000
attribute [local irreducible] comp hb sha leafD pairD secD shutD wholeD pubD ofD leavesD Dg.one
theorem bv2 : AV.v (.int .u8 2) = bv 2 := (rfl)

theorem alive6_meets : Meets Tryd.prog Gt fn_l06_alive [] [] true (.v (.bool true)) [] := by
  refine meets_of_go mix k_l06_alive ⟨by simp, by simp, by simp⟩ ?_
  have o1 := one_set 1
  have o2 := one_set 2
  generalize Dg.one 1 = D1 at *
  generalize Dg.one 2 = D2 at *
  have m1 := rnew_meets
  have m2 := radd_new D1 0 (by omega)
  have hl := leavesD_length D1 32 (2 ^ 0)
  have hc := sign_checks D1 0 0 D2 (by omega) (by decide)
  unfold oneN at m2
  generalize leavesD D1 32 (2 ^ 0) = ls at *
  have hl1 : ls.length = 1 := hl
  generalize rootD ls = root at *
  have m3 := take_meets ⟨D1, 0, ls, root, 0, [], 0⟩ (by simp) (by simp) (by simp) (by simp)
  have m4 := take_spent ⟨D1, 0, ls, root, 1, [(0, 0)], 1⟩ (by simp) (by simp)
  have m5 := ringSign_meets ⟨D1, 0, ls, root, 1, [(0, 0)], 1⟩ 0 D2 (by simp [hl1]) (by simp [hl1]) ⟨(0, 0), by simp, rfl⟩ (by simp)
  have m6 := ringSign_shut ⟨D1, 0, ls, root, 1, [], 1⟩ 0 D2 (by simp)
  have m7 := kcheck_meets root ((0 : Nat) : Int) D2 (signK D1 ls 0 D2 32) (by omega) (by simp [signK])
  rw [hc] at m7
  clear hc
  simp only [takeT, signT, List.nil_append, Int.natCast_zero, Int.ofNat_zero, Nat.zero_add] at m2 m3 m4 m5 m6 m7
  rw [show (List.filter (fun p : Int × Nat => !decide (p.1 = 0)) [(0, 0)]) = [] by simp] at m5
  generalize signK D1 ls 0 D2 32 = S at *
  simp [bv1, bv2, o1, o2]
  refine call_intro m1 ?_ ?_
  · simp [rg0]
  simp [rg0, bv1, o1]
  refine call_intro m2 ?_ ?_
  · simp [rg0, rgM, keyA]
  simp [rg0, rgM, keyA]
  refine call_intro m3 ?_ ?_
  · simp [rgM, keyA]
  simp [rgM, keyA]
  refine call_intro m4 ?_ ?_
  · simp [rgM, keyA]
  simp [rgM, keyA, bv2, o2]
  refine call_intro m5 ?_ ?_
  · simp [rgM, keyA]
  simp [rgM, keyA, Sig.avS, bv2, o2]
  refine call_intro m6 ?_ ?_
  · simp [rgM, keyA]
  simp [rgM, keyA, sig0, Sig.avS, bv2, o2]
  refine call_intro m7 ?_ ?_
  · simp [Sig.avS]
  simp [Sig.avS]
  refine post_end (.inr rfl) ?_
  simp

/-- The open numbers below n. -/
def opn (n : Nat) : List (Int × Nat) := (List.range n).map fun (i : Nat) => ((i : Int), i)
theorem opn_succ (n : Nat) : opn n ++ [((n : Int), n)] = opn (n + 1) := by simp [opn, List.range_succ]
theorem opn_ne {n : Nat} : ∀ p ∈ opn n, p.1 ≠ (n : Int) := fun p hp => by
  simp only [opn, List.mem_map, List.mem_range] at hp
  obtain ⟨i, hi, rfl⟩ := hp
  simp only [ne_eq]
  omega
/-- A tree behind n takes. -/
def oneT (seed : Dg) (h : Nat) (ls : List Dg) (root : Dg) (n : Nat) : One := ⟨seed, h, ls, root, n, opn n, n⟩
theorem take_oneT (seed : Dg) (h : Nat) (ls : List Dg) (root : Dg) (n : Nat) : takeT (oneT seed h ls root n) = oneT seed h ls root (n + 1) := by
  simp only [takeT, oneT, opn_succ]

theorem ringCounts_walk (seed : Dg) (h takes : Int) : Meets Tryd.prog Gt fn_l06_RingCounts [dv seed, .v (.int .i64 h), .v (.int .i64 takes)] [] true (.v (.bool true)) [] := by
  refine meets_of_go mix k_l06_RingCounts ⟨by simp, by simp, by simp⟩ ?_
  simp
  refine call_intro alive6_meets ?_ ?_
  · simp
  simp
  by_cases c1 : h < 0
  case pos =>
    simp [c1]
    refine post_end (.inr rfl) ?_
    simp
  by_cases c2 : 2 < h
  case pos =>
    simp [c1, c2]
    refine post_end (.inr rfl) ?_
    simp
  by_cases c3 : takes < 0
  case pos =>
    simp [c1, c2, c3]
    refine post_end (.inr rfl) ?_
    simp
  by_cases c4 : 10 < takes
  case pos =>
    simp [c1, c2, c3, c4]
    refine post_end (.inr rfl) ?_
    simp
  obtain ⟨n, rfl⟩ : ∃ n : Nat, h = n := ⟨h.toNat, by omega⟩
  obtain ⟨T, rfl⟩ : ∃ T : Nat, takes = T := ⟨takes.toNat, by omega⟩
  have hn : n ≤ 2 := by omega
  have c2n : ¬ 2 < n := by omega
  have c4n : ¬ 10 < T := by omega
  have m1 := rnew_meets
  have m2 := radd_new seed n (by omega)
  have m3 := fun (t : One) (hr : t.root = (oneN seed n).root) (ht : t.h = n) => radd_old t seed n (by omega) hr ht
  unfold oneN at m2 m3
  have hl := leavesD_length seed 32 (2 ^ n)
  generalize leavesD seed 32 (2 ^ n) = ls at *
  generalize rootD ls = root at *
  dsimp only at m2 m3
  obtain ⟨q, hq⟩ : ∃ q : Nat, q = 2 ^ n := ⟨_, rfl⟩
  have hq4 : 1 ≤ q ∧ q ≤ 4 := by
    rcases (show n = 0 ∨ n = 1 ∨ n = 2 by omega) with rfl | rfl | rfl <;> simp at hq <;> omega
  have hmin : min n 64 = n := by omega
  have hqi : ((2 : Int) ^ n) = (q : Int) := by rw [hq]; simp
  have w1 : IntKind.i64.wrap (q : Int) = (q : Int) := w64_id (by omega)
  have w2 : IntKind.u64.wrap (n : Int) = (n : Int) := by rw [IntKind.wrap_u64]; omega
  have hon : opn 0 = [] := rfl
  simp [c1, c2, c2n, c3, c4, c4n]
  refine call_intro m1 ?_ ?_
  · simp [rg0]
  simp [rg0]
  refine call_intro m2 ?_ ?_
  · simp [rg0, rgM, keyA]
  simp [rg0, rgM, keyA, w2, hmin, hqi, w1]
  refine go_up T (fun i (_ : Unit) => True) (fun i _ c => ⟨[(1, .v (.int .i64 (n : Nat))), (2, .v (.int .i64 (T : Nat))), (3, .ptr 3 c 0), (7, .ptr 1000 c 0), (8, .ptr 8 c 0), (10, .v (.int .i64 (q : Nat))), (11, .v (.int .i64 (i : Nat)))],
    (3, .var c (dv seed)) :: (8, .var c (.node [dv root, .v (.int .i64 (n : Nat))])) :: rgM c c (oneT seed n ls root (min i q)), c + 1⟩) () _ (Weak.re (by simp [rgM, oneT, hon])) trivial ?_ ?_
  · intro i _ c hi _
    have hw : IntKind.i64.wrap ((i : Int) + 1) = ((i + 1 : Nat) : Int) := w64_succ (by omega)
    have hii : (i : Int) < (T : Nat) := by omega
    by_cases hlt : i < q
    · have e1 : min i q = i := by omega
      have e2 : min (i + 1) q = i + 1 := by omega
      have m4 := take_meets (oneT seed n ls root i) (by simp [oneT]; omega) (by simp [oneT]; omega) (fun p hp => opn_ne p hp) (by simp [oneT]; omega)
      rw [take_oneT] at m4
      have m5 := left_meets (oneT seed n ls root (i + 1)) (by simp [oneT]; omega) (by simp [oneT]; omega)
      have hlq : (i : Int) < (q : Nat) := by omega
      have hle : ¬ q ≤ i := by omega
      have hle2 : ¬ (q : Int) ≤ (i : Nat) := by omega
      obtain ⟨r, hr⟩ : ∃ r, q - (i + 1) = r := ⟨_, rfl⟩
      have w3 : IntKind.i64.wrap ((q : Int) - (i : Nat)) = ((r + 1 : Nat) : Int) := by rw [w64_id (by omega)]; omega
      have w4 : IntKind.i64.wrap (r : Int) = (r : Int) := w64_id (by omega)
      have hr0 : ¬ (r : Int) < 0 := by omega
      rw [e1]
      simp only [oneT, ← hq, hr] at m4 m5
      simp [oneT, rgM, hi, hii]
      refine call_intro m4 ?_ ?_
      · simp [rgM, keyA]
      simp [rgM, keyA, hlq, hlt, hle, hle2]
      refine call_intro m5 ?_ ?_
      · simp [rgM, keyA]
      simp [rgM, keyA, w3, w4, hr0, hw]
      exact ⟨(), _, Weak.re (by simp [rgM, oneT, e2]), trivial⟩
    · have e1 : min i q = q := by omega
      have e2 : min (i + 1) q = q := by omega
      have m4 := take_spent (oneT seed n ls root q) (by simp [oneT]; omega) (by simp [oneT]; omega)
      have m5 := left_meets (oneT seed n ls root q) (by simp [oneT]; omega) (by simp [oneT]; omega)
      have hlq : ¬ (i : Int) < (q : Nat) := by omega
      have hle : q ≤ i := by omega
      have hle2 : (q : Int) ≤ (i : Nat) := by omega
      have w3 : IntKind.i64.wrap ((q : Int) - (i : Nat)) = (q : Int) - (i : Nat) := w64_id (by omega)
      have w4 : IntKind.i64.wrap ((q : Int) - (i : Nat) - 1) = (q : Int) - (i : Nat) - 1 := w64_id (by omega)
      have h0 : (q : Int) - (i : Nat) - 1 < 0 := by omega
      have h0' : ¬ 0 < (q : Int) - (i : Nat) - 1 := by omega
      rw [e1]
      simp only [oneT, ← hq, Nat.sub_self, Int.natCast_zero, Int.ofNat_zero] at m4 m5
      simp [oneT, rgM, hi, hii]
      refine call_intro m4 ?_ ?_
      · simp [rgM, keyA]
      simp [rgM, keyA, hlq, hlt, hle, hle2]
      refine call_intro m5 ?_ ?_
      · simp [rgM, keyA]
      simp [rgM, keyA, w3, w4, h0, h0', hw]
      exact ⟨(), _, Weak.re (by simp [rgM, oneT, e2]), trivial⟩
  · intro _ c _
    have m6 := m3 (oneT seed n ls root (min T q)) rfl rfl
    have m7 := keys_meets (oneT seed n ls root (min T q))
    generalize min T q = x at *
    simp only [oneT] at m6 m7
    simp [oneT, rgM]
    refine call_intro m6 ?_ ?_
    · simp [rgM, keyA]
    simp [rgM, keyA]
    refine call_intro m7 ?_ ?_
    · simp [rgM, keyA]
    simp [rgM, keyA]
    refine post_end (.inr rfl) ?_
    simp
end Go.Proofs.YtphggannefpleaaDoor.WL

end
section
/-
  CHAPTER 02: what the row's condition gives the walks: the table in the program's variable.
-/
namespace Go.Proofs.YtphggannefpleaaDoor.WL
open Go

theorem gTable : Tryd.prog.globalNamed "wapentake/sha.table" = some 0 := by kernel_rfl
def tableZ : List Int := table.map w32
theorem laid_eq {H : Type} : (Rows.laid_wapentake_sha_table : DataW H) = Lib.tabData .u32 tableZ := rfl
theorem Es_ints {C : Ctx} : ∀ ws : List UInt32, Es C 1 (U ws) (ws.map fun z => Value.int .u32 (w32 z))
  | [] => rfl
  | w :: ws => ⟨[_], _, rfl, rfl, ⟨rfl, rfl⟩, Es_ints ws⟩
theorem gr_of_laid {W : World} (h : laidMetH Tryd.prog [("wapentake/sha.table", Rows.laid_wapentake_sha_table)] W) : GR ⟨W, fun k => k < W.heap.size, fun _ => none, fun _ => none, fun g => g = 0⟩ Gt := by
  rw [MakeChecks.laidMetH_plain _ _ _ (by kernel_rfl), laid_eq] at h
  have hT : Lib.TabIs Tryd.prog W "wapentake/sha.table" .u32 tableZ := by
    refine Lib.tabIs_of_head (t := 154) (e := 135) (n := 64) gTable ?_ ?_ ?_ ?_ ?_ h
    · kernel_rfl
    · kernel_rfl
    · kernel_rfl
    · kernel_rfl
    · kernel_rfl
  intro n x hx
  unfold Gt at hx
  split at hx
  · rename_i hn
    subst hn
    cases hx
    refine ⟨by simp [closed, closeds, U, closeds_all], 0, 0, _, rfl, ?_, Es_ints table, ?_⟩
    · have h0 := hT.cell gTable 0 (by decide)
      show 0 < W.heap.size
      rcases Nat.eq_zero_or_pos W.heap.size with h1 | h1
      · simp [World.cell?, Array.getElem?_eq_none (Nat.le_of_eq h1)] at h0
      · exact h1
    · intro j u hu
      have hj : j < table.length := by
        rcases Nat.lt_or_ge j table.length with h1 | h1
        · exact h1
        · rw [List.getElem?_eq_none (by simpa using h1)] at hu
          cases hu
      have h1 := hT.cell gTable j (by simpa [tableZ] using hj)
      rw [Nat.zero_add, h1]
      simp [List.getElem?_eq_getElem hj] at hu
      rw [← hu]
      simp [tableZ, List.getD_eq_getElem?_getD, List.getElem?_eq_getElem hj]
  · cases hx
end Go.Proofs.YtphggannefpleaaDoor.WL

end
