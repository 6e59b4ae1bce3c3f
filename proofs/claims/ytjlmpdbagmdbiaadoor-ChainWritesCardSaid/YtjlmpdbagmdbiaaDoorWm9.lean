
import Derived.Test.YtjlmpdbagmdbiaaDoorWm8
import Derived.Shelf.SlicesQ.IndexFunc
import Derived.Lib.SliceRun
section
namespace Go.Proofs.YtjlmpdbagmdbiaaDoor.WL
open Go
set_option maxHeartbeats 4000000
variable {G : Nat → Option AV}
attribute [local irreducible] sha
attribute [local irreducible] Rd.sig Rd.sig' Rd.blk Rd.blk' Rd.inn Rd.inn' Rd.dg Rd.dg' Rd.rep Rd.rep' repR
theorem JKp (ms : List Mem) (i : Nat) (h : i < ms.length) : memsB (ms.take (i + 1)) = memsB (ms.take i) ++ memB ms[i] := by
  rw [List.take_succ_eq_append_getElem h]
  unfold memsB
  rw [List.flatMap_append]
  simp only [List.flatMap_cons, List.flatMap_nil, List.append_nil]
theorem JPI (m : Mem) : (memB m).length = 48 := by simp [memB, Jg]
theorem JD8 (ms : List Mem) : (memsB ms).length = 48 * ms.length := by
  induction ms with
  | nil => rfl
  | cons m ms ih =>
    show (memB m ++ memsB ms).length = _
    rw [List.length_append, JPI, ih, List.length_cons]
    omega
theorem JBV (bs : Bytes) (c : Conf) (h : bs.length ≤ 50000000) (hn : c.ms.length ≤ 1000) : Meets Tryd.prog G JbC [.ptr 1000 0 0, c.av] (wrM 0 bs) true (.tup []) (wrM 1 (bs ++ c.bytes)) := by
  refine Jc mix JER ⟨by simp [wrM], by simp, by simp [wrM]⟩ ?_
  have m1 := J0 (G := G) bs [c.epoch, (c.ms.length : Int)] (by simp; omega)
  have hy : (bs ++ nums [c.epoch, (c.ms.length : Int)]).length = bs.length + 16 := by rw [List.length_append, Jg]; simp
  have hb : bs ++ c.bytes = bs ++ nums [c.epoch, (c.ms.length : Int)] ++ memsB c.ms := by simp [Conf.bytes]
  rw [hb]
  generalize bs ++ nums [c.epoch, (c.ms.length : Int)] = y at *
  generalize hms : c.ms = ms at *
  have hlen := JD8 ms
  simp [wrM, Conf.av, hms]
  refine Ja m1 ?_ ?_
  · simp [wrM, I64_2]
  simp [wrM, I64_2]
  obtain ⟨F, hF⟩ : ∃ F : Nat → Bytes, ∀ i, F i = y ++ memsB (ms.take i) := ⟨_, fun _ => rfl⟩
  have hF0 : y = F 0 := by rw [hF]; simp [memsB]
  have hFN : y ++ memsB ms = F ms.length := by rw [hF, List.take_length]
  have hFl : ∀ i, i ≤ ms.length → (F i).length = y.length + 48 * i := by intro i hi; rw [hF, List.length_append, JD8, List.length_take]; omega
  have hFlN : (F ms.length).length = y.length + 48 * ms.length := hFl _ (Nat.le_refl _)
  have hy0 := hy
  have h0l : (F 0).length = y.length := by rw [← hF0]
  rw [hFN]
  rw [hF0] at hy ⊢
  refine go_up ms.length (fun j (_ : Unit) => True) (fun j _ c => ⟨[(0, .ptr 1000 0 0), (15, .sl 34 (Mems ms)), (16, .v (.int .i64 (ms.length : Nat))), (17, .v (.int .i64 (j : Nat)))], [(1000, .var 0 (.node [.row 2000 1 c 0 (F j).length])), (2000, .rows c 1 (B (F j)))], c + 1⟩) () _ (Weak.re0 1000 (by simp)) trivial ?_ ?_
  · intro j _ c hj _
    have hw : IntKind.i64.wrap ((j : Int) + 1) = ((j + 1 : Nat) : Int) := Je (by omega)
    have hlj := hFl j (by omega)
    have hFs : F j ++ memB ms[j] = F (j + 1) := by rw [hF, hF, JKp ms j hj, List.append_assoc]
    have m4 := J0 (G := G) (F j) [ms[j].id, ms[j].height] (by simp; omega)
    have m5 := JX (G := G) (F j ++ nums [ms[j].id, ms[j].height]) [ms[j].root] (by rw [List.length_append, Jg]; simp; omega)
    have e : F j ++ nums [ms[j].id, ms[j].height] ++ flatD [ms[j].root] = F (j + 1) := by rw [← hFs]; simp [memB, flatD]
    rw [e] at m5
    generalize F j ++ nums [ms[j].id, ms[j].height] = x1 at *
    simp [hj, Mem.av, dv]
    refine Ja m4 ?_ ?_
    · simp [wrM, I64_2]
    simp [wrM, I64_2]
    refine Ja m5 ?_ ?_
    · simp [wrM, Dgs_1]
    simp [wrM, Dgs_1]
    simp [hw]
    exact ⟨(), _, Weak.re0 1000 (by simp), trivial⟩
  · intro _ c _
    simp
    refine Jb (.inl rfl) ?_
    simp [hFlN, h0l, hlen]
theorem JJK (r : Rd) : Meets Tryd.prog G Jix [.ptr 1000 0 0] (rdM 0 r) false (confF.rd r).av (rdM 1 (confF.rd' r)) := by
  refine Jc mix JFZ ⟨by simp [rdM], by simp [rdM], by simp [rdM]⟩ ?_
  rw [JFE, JH1]
  have hN : ((r.confN : Nat) : Int) = (r.inn' 0 1073741824).inn 1 10 ∧ r.confN ≤ 10 := by
    have : (0 : Int) ≤ (r.inn' 0 1073741824).inn 1 10 ∧ (r.inn' 0 1073741824).inn 1 10 ≤ 10 := by
      unfold Rd.inn Rd.inOk
      split
      · rename_i k
        simp only [Bool.and_eq_true, decide_eq_true_eq] at k
        omega
      · omega
    unfold Rd.confN
    omega
  obtain ⟨hN, hN2⟩ := hN
  generalize r.confN = N at *
  have m1 := JT (G := G) r 0 1073741824
  generalize r.inn 0 1073741824 = a1 at *
  generalize r.inn' 0 1073741824 = r1 at *
  have m2 := JT (G := G) r1 1 10
  rw [← hN] at m2
  clear hN
  generalize r1.inn' 1 10 = r2 at *
  simp [rdM]
  refine Ja m1 ?_ ?_
  · simp [rdM]
  simp [rdM]
  refine Ja m2 ?_ ?_
  · simp [rdM]
  simp [rdM]
  obtain ⟨L, hL⟩ : ∃ L : Nat → List Mem, ∀ i, L i = (repR memF r2 i).1 := ⟨_, fun _ => rfl⟩
  obtain ⟨R, hR⟩ : ∃ R : Nat → Rd, ∀ i, R i = (repR memF r2 i).2 := ⟨_, fun _ => rfl⟩
  have hL0 : L 0 = [] := by rw [hL]; simp only [repR]
  have hR0 : r2 = R 0 := by rw [hR]; simp only [repR]
  have hLl : ∀ i, (L i).length = i := fun i => by rw [hL]; exact Jbp memF r2 i
  rw [← hL, ← hR]
  rw [hR0]
  refine go_up N (fun j (_ : Unit) => lastId (L j) ≤ 63 ∧ 0 ≤ lastId (L j)) (fun j _ c => ⟨[(0, .ptr 1000 0 0), (2, .ptr 2 c 0), (3, .ptr 3 c 0), (4, .v (.int .i64 (lastId (L j)))), (10, .v (.int .i64 (N : Nat))), (11, .v (.int .i64 (j : Nat)))],
    [(2, .var c (.node [.v (.int .i64 0), .v (.slice none 0 0)])), (3, .var c (.node [.v (.int .i64 a1), .row 28 34 c 0 j])), (28, .rows c 34 (Mems (L j))),
     (1000, .var 0 (.node [.row 2000 1 c (R j).pre.length (R j).s.length, .v (.bool (R j).bad)])), (2000, .rows c 1 (B ((R j).pre ++ (R j).s)))], c + 1⟩) () _ (Weak.re0 1000 (by simp [hL0])) (by simp [hL0]) ?_ ?_
  · intro j _ c hj hlast
    have hw : IntKind.i64.wrap ((j : Int) + 1) = ((j + 1 : Nat) : Int) := Je (by omega)
    have f1 : fitsB (j + 1) 48 := fits (by omega) (by omega)
    have e1 : L (j + 1) = L j ++ [(memF (L j)).rd (R j)] := by rw [hL, hL, hR]; simp only [repR]
    have e2 : R (j + 1) = (memF (L j)).rd' (R j) := by rw [hR, hL, hR]; simp only [repR]
    have e3 : ∀ l r, (memF l).rd r = ⟨r.inn (lastId l + 1) 63, ((r.inn' (lastId l + 1) 63).inn' 0 6).dg, (r.inn' (lastId l + 1) 63).inn 0 6⟩ := fun _ _ => rfl
    have e4 : ∀ l r, (memF l).rd' r = ((r.inn' (lastId l + 1) 63).inn' 0 6).dg' := fun _ _ => rfl
    rw [e3] at e1
    rw [e4] at e2
    have hlj := hLl j
    have hw2 : IntKind.i64.wrap (lastId (L j) + 1) = lastId (L j) + 1 := Jq (by omega)
    generalize hln : lastId (L j) = ln at *
    have hri : (R j).inn (ln + 1) 63 ≤ 63 ∧ 0 ≤ (R j).inn (ln + 1) 63 := by
      unfold Rd.inn Rd.inOk
      split
      · rename_i k
        simp only [Bool.and_eq_true, decide_eq_true_eq] at k
        omega
      · omega
    generalize R j = q at *
    have m3 := JT (G := G) q (ln + 1) 63
    generalize q.inn (ln + 1) 63 = b1 at *
    generalize q.inn' (ln + 1) 63 = q1 at *
    have m4 := JT (G := G) q1 0 6
    generalize q1.inn 0 6 = b2 at *
    generalize q1.inn' 0 6 = q2 at *
    have m5 := JV (G := G) q2
    generalize q2.dg = b3 at *
    generalize q2.dg' = q3 at *
    generalize L j = x at *
    have hS := JGI x ⟨b1, b3, b2⟩
    simp only [Mem.av, dv] at hS
    simp [hj, rdM, hw2]
    refine Ja m3 ?_ ?_
    · simp [rdM]
    simp [rdM]
    refine Ja m4 ?_ ?_
    · simp [rdM]
    simp [rdM]
    refine Ja m5 ?_ ?_
    · simp [rdM]
    simp [rdM, f1, hlj, hS, dv]
    simp [hw]
    refine ⟨(), _, Weak.re0 1000 (by simp [e1, e2]), ?_⟩
    show lastId (L (j + 1)) ≤ 63 ∧ 0 ≤ lastId (L (j + 1))
    rw [e1, JvA]
    exact hri
  · intro _ c hlast
    have hlN := hLl N
    generalize R N = q at *
    generalize L N = x at *
    have m8 := J8 (G := G) q
    have htx : List.take N x = x := List.take_of_length_le (by omega)
    simp [rdM]
    refine Ja m8 ?_ ?_
    · simp [rdM]
    simp [rdM]
    cases hb : q.bad
    · simp [rdM, hb]
      refine Jb (.inr rfl) ?_
      simp [Conf.av, hb, hlN, htx]
    · simp [rdM, hb]
      refine Jb (.inr rfl) ?_
      simp [Conf.av, Conf.zero, hb]
end Go.Proofs.YtjlmpdbagmdbiaaDoor.WL
end
section
namespace Go.Proofs.YtjlmpdbagmdbiaaDoor.WL
open Go Go.Proofs Go.Shelf Go.RowKit Go.Lib
def rhoIx : Ren := ⟨fun x => if x = 6 then 123 else x, fun x => if x = 22 then 22 else if x = 23 then 89 else if x = 25 then 129 else if x = 3 then 3 else if x = 4 then 4 else x, fun x => x⟩
theorem layIx : SlLaysH0.n6 Tryd.prog rhoIx where
  mixed := mix
  f6 := ⟨Tryd.f123.name, by kernel_rfl, by kernel_rfl⟩
  t0 := by kernel_rfl
  a0 := fun w => Jcv (by kernel_rfl) w
  z0 := fun w => JH (by kernel_rfl) w
  v0 := fun _ => by kernel_rfl
  t3 := by kernel_rfl
  a3 := fun w => Jcv (by kernel_rfl) w
  z3 := fun w => JH (by kernel_rfl) w
  v3 := fun _ => by kernel_rfl
  t4 := by kernel_rfl
  a4 := fun w => Jcv (by kernel_rfl) w
  z4 := fun w => JH (by kernel_rfl) w
  v4 := fun _ => by kernel_rfl
  t22 := by kernel_rfl
  a22 := fun w => Jcv (by kernel_rfl) w
  z22 := fun w => JH (by kernel_rfl) w
  v22 := fun _ => by kernel_rfl
  t25 := by kernel_rfl
  a25 := fun w => Jcv (by kernel_rfl) w
  z25 := fun w => JH (by kernel_rfl) w
  v25 := fun _ => by kernel_rfl
def encMem (m : Mem) : List Value := .int .i64 m.id :: (m.root.bs.map (fun b => Value.int .u8 (b.toNat : Int)) ++ [.int .i64 m.height])
theorem JLZ (m : Mem) : (encMem m).length = 34 := by simp [encMem]
theorem predId (id : Int) (B : Nat) (w : World) (hB : B < w.heap.size) (hcell : w.cell? ⟨B, 0, none⟩ = some (.int .i64 id)) :
    PredBelow Tryd.prog 124 #[.pointer (some ⟨B, 0, none⟩)] (fun m : Mem => .agg (encMem m).toArray) (fun m => decide (m.id = id)) w := fun W x hb => by
  have hc : W.cell? ⟨B, 0, none⟩ = some (.int .i64 id) := (hb.cell (p := ⟨B, 0, none⟩) hB).trans hcell
  have hBW : B < W.heap.size := Nat.lt_of_lt_of_le hB hb.size
  have hne : B ≠ W.heap.size := by omega
  show Calls Tryd.prog 124 #[.agg (encMem x).toArray, .pointer (some ⟨B, 0, none⟩)] W _
  have he : (encMem x).toArray = (Value.int .i64 x.id :: (x.root.bs.map (fun b => Value.int .u8 (b.toNat : Int)) ++ [.int .i64 x.height])).toArray := rfl
  rw [he]
  generalize (x.root.bs.map (fun b => Value.int .u8 (b.toNat : Int)) ++ [Value.int .i64 x.height]) = rest
  go_enter Tryd.func124, Tryd.ntmps124
  go_wp2
  all_goals (go_ret; exact ⟨by simp_all; rw [Bool.eq_iff_iff]; simp, hb.alloc hb.size _⟩)
instance : Inhabited Mem := ⟨⟨0, Dg.zero, 0⟩⟩
def idxOf (ms : List Mem) (id : Int) : Int := Lib.idxBy (fun _ y : Mem => decide (y.id = id)) ms default
theorem JKC (ms : List Mem) (id : Int) : (idxOf ms id = -1) ∨ ∃ k : Nat, k < ms.length ∧ idxOf ms id = (k : Int) := by
  by_cases h : ∃ k, k < ms.length ∧ (ms[k]!).id = id
  · right
    obtain ⟨k, hk, hm⟩ : ∃ k, k < ms.length ∧ (ms[k]!).id = id ∧ ∀ j, j < k → (ms[j]!).id ≠ id := by
      obtain ⟨k, hk, hid⟩ := h
      induction k using Nat.strongRecOn with
      | ind k ih =>
        by_cases hj : ∃ j, j < k ∧ (ms[j]!).id = id
        · obtain ⟨j, hjk, hjid⟩ := hj
          exact ih j hjk (by omega) hjid
        · exact ⟨k, hk, hid, fun j hjk hjid => hj ⟨j, hjk, hjid⟩⟩
    refine ⟨k, hk, ?_⟩
    have := Lib.idxBy_hit (fun _ y : Mem => decide (y.id = id)) ms ms.length k default hk (Nat.le_refl _) (decide_eq_true hm.1) (fun j hj => decide_eq_false (hm.2 j hj))
    rwa [List.take_length] at this
  · left
    have := Lib.idxBy_miss (fun _ y : Mem => decide (y.id = id)) ms ms.length default (fun j hj => by
      simp only [decide_eq_false_iff_not]
      exact fun hid => h ⟨j, hj, hid⟩)
    rwa [List.take_length] at this
theorem JH7 (id : Int) (b off cap B : Nat) (ms : List Mem) (w : World) (hbig : ms.length ≤ 9223372036854775807) (hb : b < w.heap.size) (hB : B < w.heap.size) (hid : w.cell? ⟨B, 0, none⟩ = some (.int .i64 id))
    (hc : ∀ j, j < ms.length → ∀ i v, (encMem ms[j]!)[i]? = some v → w.cell? ⟨b, off + j * 34 + i, none⟩ = some v) :
    Calls Tryd.prog 123 #[.slice (some ⟨b, off, none⟩) ms.length cap, .func (.func 124) #[] #[.pointer (some ⟨B, 0, none⟩)]] w fun ex w' => ex = .returned (.int .i64 (idxOf ms id)) ∧ Below w.heap.size w w' := by
  have eg : ∀ args w, (callFunc 124 args).run Tryd.prog w = .ok (.enter 124 args) w := enters_of Tryd.func124 (by kernel_rfl) rfl
  have h := AnyQ.slices_IndexFunc layIx 34 (fun w => Jcv (by kernel_rfl) w) (fun w => JH (by kernel_rfl) w) encMem JLZ (fun y : Mem => decide (y.id = id)) 124 #[.pointer (some ⟨B, 0, none⟩)] eg b off ms.length cap ms w
    (predId id B w hB hid) (Nat.le_refl _) hbig hb hc
  rw [List.take_length] at h
  exact h
end Go.Proofs.YtjlmpdbagmdbiaaDoor.WL
end
section
namespace Go.Proofs.YtjlmpdbagmdbiaaDoor.WL
open Go
set_option maxHeartbeats 4000000
theorem Es_B {C : Ctx} : ∀ (bs : Bytes) (cs : List Value), Es C 1 (B bs) cs → cs = bs.map (fun b => Value.int .u8 (b.toNat : Int))
  | [], cs, h => by simpa [B, Es] using h
  | b :: bs, cs, h => by
    have h' : Es C 1 (bv b :: B bs) cs := h
    simp only [Es] at h'
    obtain ⟨c1, c2, rfl, _, h1, h2⟩ := h'
    simp only [bv, V] at h1
    rw [h1.1, Es_B bs c2 h2]
    rfl
theorem V_mem {C : Ctx} {m : Mem} {cs : List Value} (h : V C m.av cs) : cs = encMem m := by
  simp only [Mem.av, V, Vs, dv] at h
  obtain ⟨c1, r1, rfl, ⟨rfl, _⟩, c2, r2, rfl, ⟨c3, r3, rfl, h3, c4, r4, rfl, ⟨rfl, _⟩, rfl⟩, rfl⟩ := h
  rw [Es_B m.root.bs c3 h3]
  simp [encMem]
theorem JRT {C : Ctx} : ∀ (ms : List Mem) (cs : List Value), Es C 34 (Mems ms) cs → ∀ j (hj : j < ms.length) i v, (encMem ms[j])[i]? = some v → cs[j * 34 + i]? = some v := by
  intro ms cs h j hj i v hv
  have hg := JE1 (i := j) (x := (ms[j]).av) h (by simp [hj])
  have e := V_mem hg.1
  rw [← e] at hv
  have hi : i < 34 := by
    have := (List.getElem?_eq_some_iff.1 hv).1
    rw [hg.2] at this
    exact this
  rw [List.getElem?_take_of_lt hi, List.getElem?_drop] at hv
  exact hv
def JDB : List COper := [⟨some 2, .box, [.t 0], none⟩, ⟨some 3, .box, [.t 1], none⟩, ⟨some 4, .alloc (.node [.v (.int .i64 0), .node [.arr 1 (rep 32 (.v (.int .u8 0))), .v (.int .i64 0)]]), [], none⟩, ⟨some 5, .mov, [.c (.int .i64 0)], none⟩, ⟨some 6, .mov, [.c (.bool false)], none⟩]
def JHp : List COper := [⟨some 12, .mov, [.t 7], none⟩, ⟨some 13, .bin .lss, [.t 12, .c (.int .i64 0)], none⟩]
def JGe : List COper := [⟨some 14, .build [.v (.int .i64 0), .node [.arr 1 (rep 32 (.v (.int .u8 0))), .v (.int .i64 0)]] [], [], none⟩, ⟨none, .store true 34, [.t 4, .t 14], none⟩, ⟨some 5, .mov, [.c (.int .i64 0)], none⟩, ⟨some 6, .mov, [.c (.bool false)], none⟩]
def JGy : List COper := [⟨some 15, .faddr 1 1 false, [.t 2], none⟩, ⟨some 16, .load false 1, [.t 15], none⟩, ⟨some 17, .mov, [.t 7], none⟩, ⟨some 18, .iaddr 34, [.t 16, .t 17], none⟩, ⟨some 19, .load true 34, [.t 18], none⟩, ⟨some 20, .mov, [.t 7], none⟩, ⟨none, .store true 34, [.t 4, .t 19], none⟩, ⟨some 5, .mov, [.t 20], none⟩, ⟨some 6, .mov, [.c (.bool true)], none⟩]
def Jj6 : CCode := .seq (.seq (.region JHp none [2, 4, 7, 13]) (.cond (.t 13) (.seq (.region JGe none [4, 5, 6]) .ret) .skip)) (.seq (.region JGy none [4, 5, 6]) .ret)
instance : Reg JDB [⟨some 2, .box, [.t 0], none⟩, ⟨some 3, .box, [.t 1], none⟩, ⟨some 4, .alloc (.node [.v (.int .i64 0), .node [.arr 1 (rep 32 (.v (.int .u8 0))), .v (.int .i64 0)]]), [], none⟩, ⟨some 5, .mov, [.c (.int .i64 0)], none⟩, ⟨some 6, .mov, [.c (.bool false)], none⟩] 5 := ⟨rfl, rfl⟩
instance : Reg JHp [⟨some 12, .mov, [.t 7], none⟩, ⟨some 13, .bin .lss, [.t 12, .c (.int .i64 0)], none⟩] 2 := ⟨rfl, rfl⟩
instance : Reg JGe [⟨some 14, .build [.v (.int .i64 0), .node [.arr 1 (rep 32 (.v (.int .u8 0))), .v (.int .i64 0)]] [], [], none⟩, ⟨none, .store true 34, [.t 4, .t 14], none⟩, ⟨some 5, .mov, [.c (.int .i64 0)], none⟩, ⟨some 6, .mov, [.c (.bool false)], none⟩] 4 := ⟨rfl, rfl⟩
instance : Reg JGy [⟨some 15, .faddr 1 1 false, [.t 2], none⟩, ⟨some 16, .load false 1, [.t 15], none⟩, ⟨some 17, .mov, [.t 7], none⟩, ⟨some 18, .iaddr 34, [.t 16, .t 17], none⟩, ⟨some 19, .load true 34, [.t 18], none⟩, ⟨some 20, .mov, [.t 7], none⟩, ⟨none, .store true 34, [.t 4, .t 19], none⟩, ⟨some 5, .mov, [.t 20], none⟩, ⟨some 6, .mov, [.c (.bool true)], none⟩] 9 := ⟨rfl, rfl⟩
noncomputable def seqL : Code → Code
  | .seq a _ => a
  | c => c
noncomputable def seqR : Code → Code
  | .seq _ b => b
  | c => c
noncomputable def regOps : Code → Array Oper
  | .region _ ops _ => ops
  | _ => #[]
noncomputable def findBody : Code := match Tryd.f89.body with
  | some c => c
  | none => .skip
theorem JOp : Tryd.f89.body = some findBody := by kernel_rfl
theorem JOW : findBody = .seq (seqL findBody) (.seq (.region 1 (regOps (seqL (seqR findBody))) false) (seqR (seqR findBody))) := by kernel_rfl
theorem JMX : chkCode Tryd.prog 21 (seqL findBody) (.region JDB none [2, 3, 4, 5, 6]) = true := by kernel_rfl
theorem JOu : chkCode Tryd.prog 21 (seqR (seqR findBody)) Jj6 = true := by kernel_rfl
theorem JMT : chkOper Tryd.prog (regOps (seqL (seqR findBody))) 21 ((regOps (seqL (seqR findBody)))[0]!) ⟨some 8, .faddr 1 1 false, [.t 2], none⟩ = true := by kernel_rfl
theorem JMM : chkOper Tryd.prog (regOps (seqL (seqR findBody))) 21 ((regOps (seqL (seqR findBody)))[1]!) ⟨some 9, .load false 1, [.t 8], none⟩ = true := by kernel_rfl
theorem JOc : chkOper Tryd.prog (regOps (seqL (seqR findBody))) 21 ((regOps (seqL (seqR findBody)))[4]!) ⟨some 7, .mov, [.t 11], none⟩ = true := by kernel_rfl
theorem JOg : (regOps (seqL (seqR findBody))).size = 5 := by kernel_rfl
end Go.Proofs.YtjlmpdbagmdbiaaDoor.WL
end
section
namespace Go.Proofs.YtjlmpdbagmdbiaaDoor.WL
open Go Go.Proofs Go.Shelf Go.RowKit Go.Lib
set_option maxHeartbeats 4000000
noncomputable def opsF : Array Oper := regOps (seqL (seqR findBody))
theorem JO7 : opsF[2]? = some ⟨some 10, .makeFunc (.func 124) #[] #[.tmp 3], 129, "config.go:46", #[], none⟩ := by kernel_rfl
theorem JLq : ∃ t p af at', opsF[3]? = some ⟨some 11, .call { callee := .value (.func 123), args := #[.tmp 9, .tmp 10], argTypes := at' }, t, p, af, none⟩ := by
  have h : opsF[3]? = some (opsF[3]!) := by kernel_rfl
  have h2 : opsF[3]! = ⟨some 11, .call { callee := .value (.func 123), args := #[.tmp 9, .tmp 10], argTypes := #[22, 129] }, (opsF[3]!).type, (opsF[3]!).pos, (opsF[3]!).after, none⟩ := by kernel_rfl
  exact ⟨_, _, _, _, h.trans (congrArg some h2)⟩
theorem JMC : opsF[0]? = some (opsF[0]!) := by kernel_rfl
theorem JPg : opsF[1]? = some (opsF[1]!) := by kernel_rfl
theorem JMn : opsF[4]? = some (opsF[4]!) := by kernel_rfl
section
variable {w0 : World} {Ws I0 : Nat → Prop} {G : Nat → Option AV} {C0 C : Ctx}
theorem JEM {w w' : World} (h : Below w.heap.size w w') : w.grownBy w' none := ⟨h.os, h.tape, h.output, h.size, fun k hk _ => h.block k hk⟩
theorem JMu {c : Conf} {id : Int} (hms : c.ms ≠ []) {g3 clk : Nat} {s : AS} {a : Act} {rem : List Nat} {Q : Exit → Act → World → Prop} {K : Act → World → Prop}
    (hm : Mid w0 Ws I0 G C0 21 clk (clk + 5) rem s a C) (h9 : s.1 9 = some (.sl 34 (Mems c.ms))) (h3 : s.1 3 = some (.ptr 3 g3 0)) (m3 : s.2 3 = some (.var g3 (.v (.int .i64 id))))
    (hK : ∀ a' C', Mid w0 Ws I0 G C0 21 clk (clk + 5) rem (upd (upd s.1 10 none) 11 (some (.v (.int .i64 (idxOf c.ms id)))), s.2) a' C' → K a' C'.w) :
    wpOp Tryd.prog opsF Q 2 (wpOp Tryd.prog opsF Q 3 K) a C.w := by
  obtain ⟨y3, e3, v3⟩ := hm.fr 3 _ h3
  obtain ⟨y9, e9, v9⟩ := hm.fr 9 _ h9
  obtain ⟨p3, q3, _, r3⟩ := v3
  obtain rfl : y3 = .pointer (some p3) := by simpa using q3
  have hmm : C.m 3 = some (.var g3 (.v (.int .i64 id))) := by rw [hm.m]; exact m3
  obtain ⟨B, hB, rfl⟩ := r3 _ hmm
  obtain ⟨b', cur, T, k1, k2, k3⟩ := hm.wr.locs 3 _ hmm
  obtain rfl : B = b' := by rw [hB] at k1; exact Option.some.inj k1
  simp only [V] at k3
  have hcell : C.w.cell? ⟨B, 0, none⟩ = some (.int .i64 id) := by
    have hcur : cur = #[.int .i64 id] := Array.ext' k3.1
    simp [World.cell?, k2, hcur]
  have hBw := (hm.wr.own 3 _ B hmm hB).1
  obtain ⟨ao, cap, body, q9, hlen, hcap, hes, hbk⟩ := v9
  have hmx : maxLen ≤ 9223372036854775807 := by simp [maxLen]
  obtain rfl : y9 = .slice ao (Mems c.ms).length cap := by simpa using q9
  obtain ⟨b, o, rfl, hIb, hcs⟩ := hbk.resolve_left (by intro h; apply hms; cases hc : c.ms with | nil => rfl | cons x l => rw [hc] at h; cases h)
  have hbw := (hm.wr.imm b hIb).1
  unfold wpOp
  rw [JO7]
  simp only
  rw [if_pos (by rfl)]
  left
  unfold Oper.wp
  have run2 : (execOp a.eval ⟨some 10, .makeFunc (.func 124) #[] #[.tmp 3], 129, "config.go:46", #[], none⟩).run Tryd.prog C.w = .ok (.value (.func (.func 124) #[] #[.pointer (some ⟨B, 0, none⟩)])) C.w := by
    have e : a.eval (.tmp 3) = .pointer (some ⟨B, 0, none⟩) := by
      show a.tmps.getD 3 undef = _
      rw [Array.getD_eq_getD_getElem?, e3]; rfl
    simp [execOp, Instr.makeFunc, e]
  rw [run2, Oper.upon_value]
  obtain ⟨t, p, af, at', h3'⟩ := JLq
  rw [h3']
  simp only
  rw [if_pos (by rfl)]
  left
  have hsz := hm.size
  have run3 : (execOp (a.put (some 10) (.func (.func 124) #[] #[.pointer (some ⟨B, 0, none⟩)])).eval ⟨some 11, .call { callee := .value (.func 123), args := #[.tmp 9, .tmp 10], argTypes := at' }, t, p, af, none⟩).run Tryd.prog C.w
      = .ok (.enter 123 #[.slice (some ⟨b, o, none⟩) (Mems c.ms).length cap, .func (.func 124) #[] #[.pointer (some ⟨B, 0, none⟩)]]) C.w := by
    have e9' : (a.put (some 10) (.func (.func 124) #[] #[.pointer (some ⟨B, 0, none⟩)])).eval (.tmp 9) = .slice (some ⟨b, o, none⟩) (Mems c.ms).length cap := by
      show Array.getD _ 9 undef = _
      rw [Array.getD_eq_getD_getElem?]
      simp only [Act.put]
      rw [Array.getElem?_setIfInBounds_ne (by decide), e9]; rfl
    have e10 : (a.put (some 10) (.func (.func 124) #[] #[.pointer (some ⟨B, 0, none⟩)])).eval (.tmp 10) = .func (.func 124) #[] #[.pointer (some ⟨B, 0, none⟩)] := by
      show Array.getD _ 10 undef = _
      rw [Array.getD_eq_getD_getElem?]
      simp only [Act.put]
      rw [Array.getElem?_setIfInBounds_self_of_lt (by omega)]; rfl
    have e : execOp (a.put (some 10) (.func (.func 124) #[] #[.pointer (some ⟨B, 0, none⟩)])).eval ⟨some 11, .call { callee := .value (.func 123), args := #[.tmp 9, .tmp 10], argTypes := at' }, t, p, af, none⟩ = callFunc 123 (#[] ++ #[Operand.tmp 9, .tmp 10].map (a.put (some 10) (.func (.func 124) #[] #[.pointer (some ⟨B, 0, none⟩)])).eval ++ #[]) := rfl
    have eg : ∀ args w, (callFunc 123 args).run Tryd.prog w = .ok (.enter 123 args) w := enters_of Tryd.func123 (by kernel_rfl) rfl
    rw [e, eg]
    simp [e9', e10]
  rw [run3, Oper.upon_enter]
  have hl : (Mems c.ms).length = c.ms.length := by simp
  rw [hl]
  refine Calls.mono (JH7 id b o cap B c.ms C.w (by rw [← hl]; omega) hbw hBw hcell ?_) ?_
  · intro j hj i v hv
    rw [show c.ms[j]! = c.ms[j] by simp [hj]] at hv
    have := hcs _ v (JRT c.ms body hes j hj i v hv)
    rwa [← Nat.add_assoc] at this
  · rintro ex w' ⟨rfl, hbel⟩
    obtain ⟨hle, hwr⟩ := hm.wr.world (JEM hbel)
    refine hK _ { C with w := w' } ⟨hwr, hm.m, ?_, hm.gr.mono hle, hm.le.trans hle, ?_, ?_, hm.fresh, hm.top, hm.one⟩
    · intro u x hx
      dsimp only at hx ⊢
      by_cases e11 : u = 11
      · subst e11
        simp only [JL, Option.some.injEq] at hx
        subst hx
        refine ⟨.int .i64 (idxOf c.ms id), ?_, ?_⟩
        · simp only [Act.put]
          rw [Array.getElem?_setIfInBounds_self_of_lt (by simp; omega)]
        · simp [SV, SV1, V, Value.oneCell']
      · rw [Jp _ _ e11] at hx
        by_cases e10 : u = 10
        · subst e10; simp at hx
        · rw [Jp _ _ e10] at hx
          obtain ⟨z, h1, h2⟩ := (hm.fr.mono hle) u x hx
          refine ⟨z, ?_, h2⟩
          simp only [Act.put]
          rw [Array.getElem?_setIfInBounds_ne (fun h => e11 h.symm), Array.getElem?_setIfInBounds_ne (fun h => e10 h.symm)]
          exact h1
    · simp [Act.put, hsz]
    · simp [Act.put, hm.defers]
end
end Go.Proofs.YtjlmpdbagmdbiaaDoor.WL
end
section
namespace Go.Proofs.YtjlmpdbagmdbiaaDoor.WL
open Go Go.Proofs Go.Shelf Go.RowKit Go.Lib
set_option maxHeartbeats 4000000
attribute [local irreducible] idxOf
section
variable {w0 : World} {Ws I0 : Nat → Prop} {G : Nat → Option AV} {C0 C : Ctx}
def findM (c : Conf) (id : Int) : List (Nat × Loc) := [(2, .var 2 c.av), (3, .var 3 (.v (.int .i64 id))), (4, .var 4 (.node [.v (.int .i64 0), .node [.arr 1 (rep 32 (.v (.int .u8 0))), .v (.int .i64 0)]]))]
def findS (c : Conf) (id : Int) : SA := ⟨[(2, .ptr 2 2 0), (3, .ptr 3 3 0), (4, .ptr 4 4 0), (5, .v (.int .i64 0)), (6, .v (.bool false))], findM c id, 7⟩
def findT (c : Conf) (id : Int) : SA := ⟨[(2, .ptr 2 2 0), (4, .ptr 4 4 0), (7, .v (.int .i64 (idxOf c.ms id)))], findM c id, 12⟩
theorem Jql {P : Program} {ops : Array Oper} {Q : Exit → Act → World → Prop} (i : Nat) (rest : List Nat) : wpOps P ops Q (i :: rest) = wpOp P ops Q i (wpOps P ops Q rest) := by
  funext a w
  exact wpOps_cons i rest a w
theorem JKH (c : Conf) (id : Int) : awp Tryd.prog G (.region JDB none [2, 3, 4, 5, 6]) (fun e S => e = .normal ∧ S = findS c id) ⟨argsL 0 [c.av, .v (.int .i64 id)], [], 2⟩ := by
  refine JKh ?_
  simp [findS, findM]
theorem JPM {c : Conf} {id : Int} (hms : c.ms ≠ []) {a : Act} {w : World} {Q : Exit → Act → World → Prop} (hr : Rel w0 Ws I0 G C0 21 (findS c id) a w)
    (hK : ∀ a' w', Rel w0 Ws I0 G C0 21 (findT c id) a' w' → Q .normal a' w') : (Code.region 1 opsF false).wp Tryd.prog Q a w := by
  refine wp_region ?_
  have hs5 : opsF.size = 5 := JOg
  rw [hs5, show List.range 5 = [0, 1, 2, 3, 4] from rfl]
  rw [Jql, Jql, Jql, Jql, Jql]
  obtain ⟨hk, C, rfl, hm⟩ := hr
  have hm0 := Rel.start (n := 5) hk hm [0, 1, 4]
  refine JGA (rd := []) (us := []) (av := .ptr 2 2 1) JMC JMT (by decide) (by simp) (by simp [findS]) (by simp [findS]) hm0 (.inr ⟨rfl, [.ptr 2 2 0], rfl, rfl, rfl⟩) fun a1 C1 h1 => ?_
  refine JGA (rd := [2]) (us := []) (av := .sl 34 (Mems c.ms)) JPg JMM (by decide) (by simp) (by simp [findS]) (by simp [findS]) h1 (.inr ⟨rfl, [.ptr 2 2 1], rfl, by rfl, rfl⟩) fun a2 C2 h2 => ?_
  refine JMu (c := c) (id := id) hms (g3 := 3) h2 rfl rfl rfl fun a3 C3 h3 => ?_
  refine JGA (rd := []) (us := []) (av := .v (.int .i64 (idxOf c.ms id))) JMn JOc (by decide) (by simp) (by simp [findS]) (by simp [findS]) h3 (.inr ⟨rfl, [.v (.int .i64 (idxOf c.ms id))], rfl, rfl, rfl⟩) fun a4 C4 h4 => ?_
  refine hK _ _ ⟨by simp [findT], C4, rfl, h4.wr, h4.m, ?_, h4.gr, h4.le, h4.size, h4.defers, by simp, fun k hk => h4.top k hk, h4.one⟩
  intro t x hx
  have : t = 2 ∨ t = 4 ∨ t = 7 := by
    simp only [findT, look] at hx
    split at hx
    · omega
    · split at hx
      · omega
      · split at hx
        · omega
        · cases hx
  rcases this with rfl | rfl | rfl <;> exact h4.fr _ x hx
end
variable {G : Nat → Option AV}
theorem JJY {c : Conf} {id : Int} (hms : c.ms ≠ []) {res : AV} (hg : goodM true [] [] = true ∧ goodA true [] res = true ∧ (([] : List (Nat × Loc)).map (·.1)).Nodup)
    (h : awp Tryd.prog G Jj6 (postA [.cell 4 true 34, .tmp 5, .tmp 6] res []) (findT c id)) : Meets Tryd.prog G 89 [c.av, .v (.int .i64 id)] [] true res [] := by
  have hf : Tryd.prog.funcs[89]? = some Tryd.f89 := by kernel_rfl
  have hn : Tryd.f89.ntmps = 21 := by kernel_rfl
  refine JI4 (rs := [.cell 4 true 34, .tmp 5, .tmp 6]) hf JOp (by kernel_rfl) (by rw [hn]; simp) hg fun w0 Ws I0 C0 a w hr => ?_
  rw [hn] at hr ⊢
  rw [JOW]
  refine wp_seq (wp_mono (JM8 mix JMX (JKH c id) hr) ?_)
  rintro e a' w' ⟨S', ⟨rfl, rfl⟩, hr'⟩
  refine wp_seq (JPM hms hr' fun a'' w'' hr'' => ?_)
  exact JM8 mix JOu h hr''
end Go.Proofs.YtjlmpdbagmdbiaaDoor.WL
end
section
namespace Go.Proofs.YtjlmpdbagmdbiaaDoor.WL
open Go
set_option maxHeartbeats 4000000
attribute [local irreducible] idxOf
variable {G : Nat → Option AV}
theorem JGh (m : Mem) : goodA true [] m.av = true := by simp [Mem.av, dv]
theorem JNY {c : Conf} {id : Int} (hms : c.ms ≠ []) (h : idxOf c.ms id = -1) : Meets Tryd.prog G 89 [c.av, .v (.int .i64 id)] [] true (.tup [Mem.av ⟨0, Dg.zero, 0⟩, .v (.int .i64 0), .v (.bool false)]) [] := by
  refine JJY hms (by simp [JGh]) ?_
  refine JKh ?_
  simp [Jj6, findT, findM, h]
  refine Jb (.inr rfl) ?_
  simp [Mem.av, dv]
theorem JMW {c : Conf} {id : Int} {k : Nat} (hk : k < c.ms.length) (h : idxOf c.ms id = (k : Int)) : Meets Tryd.prog G 89 [c.av, .v (.int .i64 id)] [] true (.tup [(c.ms[k]).av, .v (.int .i64 k), .v (.bool true)]) [] := by
  refine JJY (fun e => by rw [e] at hk; cases hk) (by simp [JGh]) ?_
  refine JKh ?_
  have h0 : ¬ ((k : Int) < 0) := by omega
  simp [Jj6, findT, findM, h, Conf.av, h0, hk]
  refine Jb (.inr rfl) ?_
  simp [Mem.av, dv]
end Go.Proofs.YtjlmpdbagmdbiaaDoor.WL
end
section
namespace Go.Proofs.YtjlmpdbagmdbiaaDoor.WL
open Go
set_option maxHeartbeats 4000000
theorem JNq {G : Nat → Option AV} (x : UInt32) (r : Nat) (h : 0 < r ∧ r < 32) : Meets Tryd.prog G Jh [wv x, .v (.int .i64 (-(r : Int)))] [] true (wv (rotr x r)) [] := by
  refine Jc mix Jvr ⟨by simp, by simp, by simp⟩ ?_
  have h1 : bitsOp .and .u64 (IntKind.u64.wrap (-(r : Int))) 31 = ((32 - r : Nat) : Int) := by
    obtain ⟨k, rfl⟩ : ∃ k : Fin 32, r = k.val := ⟨⟨r, h.2⟩, rfl⟩
    revert h
    revert k
    decide +kernel
  have h2 : (0 : Int) ≤ ((32 - r : Nat) : Int) := by omega
  have h3 : IntKind.u64.wrap (32 - ((32 - r : Nat) : Int)) = (r : Int) := by rw [JvL (by omega)]; omega
  have h4 : min (32 - r) 32 = 32 - r := by omega
  have h5 : min r 32 = r := by omega
  have h6 := JFy x (32 - r) (by omega)
  have h7 := JDx x r h.2
  have h8 : (x <<< UInt32.ofNat (32 - r)) ||| (x >>> UInt32.ofNat r) = rotr x r := UInt32.or_comm _ _
  simp [h1, h2, h3, h4, h5, h6, h7, JQx, h8]
  refine Jb (.inr rfl) ?_
  simp
theorem JK2 {G : Nat → Option AV} (b : Bytes) (h : 4 ≤ b.length) : Meets Tryd.prog G Jvw [.sl 1 (B b)] [] true (wv (word4 (b.getD 0 0) (b.getD 1 0) (b.getD 2 0) (b.getD 3 0))) [] := by
  refine Jc mix JLj ⟨by simp, by simp, by simp⟩ ?_
  match b, h with
  | a :: b :: c :: d :: r, _ =>
    have h1 := JFy a.toUInt32 24 (by decide)
    have h2 := JFy b.toUInt32 16 (by decide)
    have h3 := JFy c.toUInt32 8 (by decide)
    simp only [Int.reducePow] at h1 h2 h3
    simp [JO0, h1, h2, h3, JQx]
    refine Jb (.inr rfl) ?_
    simp [word4]
end Go.Proofs.YtjlmpdbagmdbiaaDoor.WL
end
section
namespace Go.Proofs.YtjlmpdbagmdbiaaDoor.WL
open Go
set_option maxHeartbeats 4000000
attribute [local irreducible] rounds grow table
def Gt : Nat → Option AV := fun n => if n = 0 then some (.arr 1 (U table)) else none
def St.av (s : St) : AV := .arr 1 (U s.list)
def stM (s : St) : List (Nat × Loc) := [(1000, .var 0 s.av)]
theorem JOh (b : Bytes) (j : Nat) (h : j < 16) : (words b)[j]? = some (word4 (b.getD (4 * j) 0) (b.getD (4 * j + 1) 0) (b.getD (4 * j + 2) 0) (b.getD (4 * j + 3) 0)) := by simp [words, h]
theorem JDd (w : List UInt32) (z : List UInt32) (k : Nat) (hk : k ≤ w.length) (h0 : 0 < k) : (w ++ z)[w.length - k]? = some (w.getD (w.length - k) 0) := by
  rw [List.getElem?_append_left (by omega), List.getD_eq_getElem?_getD, List.getElem?_eq_getElem (by omega)]
  rfl
theorem JPV (w : List UInt32) (n : Nat) (v : UInt32) : (w ++ zeros32 (n + 1)).set w.length v = (w ++ [v]) ++ zeros32 n := by
  rw [List.set_append_right _ _ (Nat.le_refl _), Nat.sub_self, List.append_assoc]
  rfl
def plusL (s t : St) (j : Nat) : List UInt32 := (s.plus t).list.take j ++ s.list.drop j
theorem JNZ (s t : St) (j : Nat) (h : j < 8) : (plusL s t j)[j]? = some (s.list.getD j 0) ∧ (plusL s t j).set j (s.list.getD j 0 + t.list.getD j 0) = plusL s t (j + 1) ∧ t.list[j]? = some (t.list.getD j 0) := by
  match j, h with
  | 0, _ => exact ⟨rfl, rfl, rfl⟩
  | 1, _ => exact ⟨rfl, rfl, rfl⟩
  | 2, _ => exact ⟨rfl, rfl, rfl⟩
  | 3, _ => exact ⟨rfl, rfl, rfl⟩
  | 4, _ => exact ⟨rfl, rfl, rfl⟩
  | 5, _ => exact ⟨rfl, rfl, rfl⟩
  | 6, _ => exact ⟨rfl, rfl, rfl⟩
  | 7, _ => exact ⟨rfl, rfl, rfl⟩
@[simp] theorem JHt (s t : St) (j : Nat) (h : j ≤ 8) : (plusL s t j).length = 8 := by
  have h1 : (s.plus t).list.length = 8 := rfl
  have h2 : s.list.length = 8 := rfl
  simp only [plusL, List.length_append, List.length_take, List.length_drop, h1, h2]
  omega
theorem JSO (s t : St) : plusL s t 8 = (s.plus t).list := rfl
theorem JSB (s t : St) : plusL s t 0 = s.list := rfl
theorem JSk (s : St) (b : Bytes) (w : List UInt32) (N : Nat) (hN : N = 64) (h : grow 48 (words b) = w) : comp s b = s.plus (rounds w N s) := by subst hN h; rfl
theorem JDk (l : List UInt32) (j : Nat) (h : j < l.length) : l[j]? = some (l.getD j 0) := by
  rw [List.getD_eq_getElem?_getD, List.getElem?_eq_getElem h]
  rfl
def i16 (j : Nat) : Int := ((16 + j : Nat) : Int)
@[simp] theorem i16_0 : i16 0 = 16 := rfl
@[simp] theorem JW5 : i16 48 = 64 := rfl
theorem JQq (j : Nat) : i16 j = 16 + (j : Int) := by simp [i16]
theorem Jir {G : Nat → Option AV} (x : UInt32) (r : Nat) (k : Int) (h : (0 < r ∧ r < 32) ∧ k = -(r : Int)) : Meets Tryd.prog G Jh [wv x, .v (.int .i64 k)] [] true (wv (rotr x r)) [] := by
  obtain ⟨h1, rfl⟩ := h
  exact JNq x r h1
theorem shr3 (x : UInt32) : w32 x / (8 : Int) = w32 (x >>> 3) := by have := JDx x 3 (by decide); simpa using this
theorem shr10 (x : UInt32) : w32 x / (1024 : Int) = w32 (x >>> 10) := by have := JDx x 10 (by decide); simpa using this
theorem JjT (s : St) (b : Bytes) (hb : b.length = 64) : Meets Tryd.prog Gt JY [.ptr 1000 0 0, .sl 1 (B b)] (stM s) true (.tup []) (stM (comp s b)) := by
  refine Jc mix JA8 ⟨by simp [stM, St.av], by simp, by simp [stM]⟩ ?_
  simp [stM]
  refine go_up 16 (fun j (x : List UInt32) => x = (words b).take j ++ zeros32 (64 - j)) (fun j x c => ⟨[(0, .ptr 1000 0 0), (1, .sl 1 (B b)), (4, .ptr 4 c 0), (26, .v (.int .i64 (j : Nat)))], [(4, .var c (.arr 1 (U x))), (1000, .var 0 s.av)], c + 1⟩)
    (zeros32 64) _ (Weak.re0 1000 (by simp [St.av])) (by simp) ?_ ?_
  · intro j x c hj hx
    have hw : IntKind.i64.wrap ((j : Int) + 1) = ((j + 1 : Nat) : Int) := Je (by omega)
    obtain ⟨q, hq⟩ : ∃ q : Nat, q = 4 * j := ⟨_, rfl⟩
    have hw4 : IntKind.i64.wrap (4 * (j : Int)) = (q : Int) := by rw [Jq (by omega)]; omega
    have hb64 : List.take 64 b = b := List.take_of_length_le (by omega)
    have hj16 : (j : Int) < 16 := by omega
    have hj64 : (j : Int) < 64 := by omega
    have hjn : j < 64 := by omega
    have h4 : q ≤ 64 ∧ (q : Int) ≤ 64 := by omega
    have hxl : x.length = 64 := by rw [hx]; simp; omega
    have hg : x.set j (word4 (b.getD (4 * j) 0) (b.getD (4 * j + 1) 0) (b.getD (4 * j + 2) 0) (b.getD (4 * j + 3) 0)) = (words b).take (j + 1) ++ zeros32 (64 - (j + 1)) := by
      have h1 := JHh (words b) 64 j (by simp; omega) (by simp)
      have h2 := JOh b j hj
      rw [List.getElem?_eq_getElem (by simp; omega)] at h2
      rw [Option.some.inj h2, ← hx] at h1
      exact h1
    have hd : ∀ k, (b.drop (4 * j)).getD k 0 = b.getD (4 * j + k) 0 := fun k => by simp [List.getD_eq_getElem?_getD]
    have hc := JK2 (G := Gt) (b.drop (4 * j)) (by simp; omega)
    rw [hd, hd, hd, hd] at hc
    rw [← hq] at hd hc hg
    generalize hv : word4 (b.getD q 0) (b.getD (q + 1) 0) (b.getD (q + 2) 0) (b.getD (q + 3) 0) = v at *
    simp [hj16, hw4, hb, h4, hb64]
    refine Ja hc ?_ ?_
    · simp
    simp [hj64, hjn, hw, hxl, U_set, Nat.mod_one, hv]
    exact ⟨_, _, Weak.re0 1000 (by simp [hg, St.av]), rfl⟩
  · intro x c hx
    simp
    refine go_up 48 (fun j (x : List UInt32) => x = grow j (words b) ++ zeros32 (48 - j)) (fun j x c => ⟨[(0, .ptr 1000 0 0), (4, .ptr 4 c 0), (6, .v (.int .i64 (i16 j)))], [(4, .var c (.arr 1 (U x))), (1000, .var 0 s.av)], c + 1⟩)
      x _ (Weak.re0 1000 (by simp [St.av])) (by rw [hx, List.take_of_length_le (by simp), JNh]) ?_ ?_
    · intro j x c hj hx
      have e := JQq j
      have e1 := JQq (j + 1)
      have hw : IntKind.i64.wrap (i16 j + 1) = i16 (j + 1) := by rw [Jq (by omega)]; omega
      have a15 : IntKind.i64.wrap (i16 j - 15) = ((j + 1 : Nat) : Int) := by rw [Jq (by omega)]; omega
      have a2 : IntKind.i64.wrap (i16 j - 2) = ((j + 14 : Nat) : Int) := by rw [Jq (by omega)]; omega
      have a16 : IntKind.i64.wrap (i16 j - 16) = ((j : Nat) : Int) := by rw [Jq (by omega)]; omega
      have a7 : IntKind.i64.wrap (i16 j - 7) = ((j + 9 : Nat) : Int) := by rw [Jq (by omega)]; omega
      have hlt : i16 j < 64 := by omega
      have hge : 0 ≤ i16 j := by omega
      have htn : (i16 j).toNat = 16 + j := by omega
      have hxl : x.length = 64 := by rw [hx]; simp; omega
      obtain ⟨k1, hk1⟩ : ∃ k : Nat, k = j + 1 := ⟨_, rfl⟩
      obtain ⟨k14, hk14⟩ : ∃ k : Nat, k = j + 14 := ⟨_, rfl⟩
      obtain ⟨k9, hk9⟩ : ∃ k : Nat, k = j + 9 := ⟨_, rfl⟩
      rw [← hk1] at a15
      rw [← hk14] at a2
      rw [← hk9] at a7
      have b1 : (k1 : Int) < 64 ∧ k1 < 64 ∧ (k14 : Int) < 64 ∧ k14 < 64 ∧ (k9 : Int) < 64 ∧ k9 < 64 ∧ (j : Int) < 64 ∧ j < 64 ∧ 16 + j < 64 := by omega
      have hgl : (grow j (words b)).length = 16 + j := by simp
      have g15 := JDd (grow j (words b)) (zeros32 (48 - j)) 15 (by omega) (by omega)
      have g2 := JDd (grow j (words b)) (zeros32 (48 - j)) 2 (by omega) (by omega)
      have g16 := JDd (grow j (words b)) (zeros32 (48 - j)) 16 (by omega) (by omega)
      have g7 := JDd (grow j (words b)) (zeros32 (48 - j)) 7 (by omega) (by omega)
      rw [← hx] at g15 g2 g16 g7
      rw [hgl, show 16 + j - 15 = k1 by omega] at g15
      rw [hgl, show 16 + j - 2 = k14 by omega] at g2
      rw [hgl, show 16 + j - 16 = j by omega] at g16
      rw [hgl, show 16 + j - 7 = k9 by omega] at g7
      have hn : next (grow j (words b)) = (grow j (words b)).getD j 0 + s0 ((grow j (words b)).getD k1 0) + (grow j (words b)).getD k9 0 + s1 ((grow j (words b)).getD k14 0) := by
        unfold next
        rw [hgl, show 16 + j - 15 = k1 by omega, show 16 + j - 2 = k14 by omega, show 16 + j - 16 = j by omega, show 16 + j - 7 = k9 by omega]
      have hs := JPV (grow j (words b)) (47 - j) (next (grow j (words b)))
      rw [show 47 - j + 1 = 48 - j by omega, ← hx, hgl, hn, show 47 - j = 48 - (j + 1) by omega, ← hn] at hs
      have e16 := (List.getElem?_eq_some_iff.1 g16).2
      have e7 := (List.getElem?_eq_some_iff.1 g7).2
      generalize (grow j (words b)).getD k1 0 = w15 at *
      generalize (grow j (words b)).getD k14 0 = w2 at *
      generalize (grow j (words b)).getD j 0 = w16 at *
      generalize (grow j (words b)).getD k9 0 = w7 at *
      simp [hlt, a15, a2, b1, g15, g2]
      refine Ja (Jir w15 7 (-7) (by decide)) ?_ ?_
      · simp
      simp
      refine Ja (Jir w15 18 (-18) (by decide)) ?_ ?_
      · simp
      simp [Jvt, shr3]
      refine Ja (Jir w2 17 (-17) (by decide)) ?_ ?_
      · simp
      simp
      refine Ja (Jir w2 19 (-19) (by decide)) ?_ ?_
      · simp
      simp [Jvt, shr10, a16, a7, b1, e16, e7, JF0, hlt, hge, htn, hxl, U_set, hw]
      exact ⟨x.set (16 + j) (next (grow j (words b))), _, Weak.re0 1000 (by simp [St.av, hn, s0, s1]), hs.trans (by rw [← JOo])⟩
    · intro x c hx
      have hx2 : x = grow 48 (words b) := by rw [hx]; simp [zeros32]
      have hwl : (grow 48 (words b)).length = 64 := by simp
      subst hx2
      generalize hgw : grow 48 (words b) = w at *
      simp [St.av, St.list, hwl]
      obtain ⟨N, hN⟩ : ∃ N : Nat, N = 64 := ⟨_, rfl⟩
      have hNI : (N : Int) = 64 := by omega
      refine go_up N (fun _ _ => True) (fun j (_ : Unit) c => ⟨[(0, .ptr 1000 0 0), (11, wv (rounds w j s).a), (12, wv (rounds w j s).b), (13, wv (rounds w j s).c), (14, wv (rounds w j s).d), (15, wv (rounds w j s).e), (16, wv (rounds w j s).f), (17, wv (rounds w j s).g), (18, wv (rounds w j s).h), (112, .arr 1 (U w)), (113, .v (.int .i64 (j : Nat)))], [(1000, .var 0 (.arr 1 (U s.list)))], c + 1⟩)
        () _ (Weak.re0 1000 (by simp [St.list, JI6])) trivial ?_ ?_
      · intro j _ c hj _
        have hw : IntKind.i64.wrap ((j : Int) + 1) = ((j + 1 : Nat) : Int) := Je (by omega)
        have hj64 : (j : Int) < 64 := by omega
        have gw := JDk w j (by omega)
        have hj : j < 64 := by omega
        have gt := JDk table j (by rw [JHw]; exact hj)
        have ew := (List.getElem?_eq_some_iff.1 gw).2
        have et := (List.getElem?_eq_some_iff.1 gt).2
        have hr : rounds w (j + 1) s = (rounds w j s).round (table.getD j 0) (w.getD j 0) := JH8 w j s
        generalize table.getD j 0 = kj at *
        generalize w.getD j 0 = wj at *
        generalize rounds w j s = r at *
        simp [hj64, hwl, hj, ew, et]
        refine Ja (Jir r.e 6 (-6) (by decide)) ?_ ?_
        · simp
        simp
        refine Ja (Jir r.e 11 (-11) (by decide)) ?_ ?_
        · simp
        simp [Jvt]
        refine Ja (Jir r.e 25 (-25) (by decide)) ?_ ?_
        · simp
        simp [Jvt, JF0, JNB, Gt, hj64, hj, ew, et]
        refine Ja (Jir r.a 2 (-2) (by decide)) ?_ ?_
        · simp
        simp
        refine Ja (Jir r.a 13 (-13) (by decide)) ?_ ?_
        · simp
        simp [Jvt]
        refine Ja (Jir r.a 22 (-22) (by decide)) ?_ ?_
        · simp
        simp [Jvt, JF0, JNB, hw]
        exact ⟨(), _, Weak.re0 1000 (by simp [hr, St.round, St.p, St.q]), trivial⟩
      · intro _ c _
        have hcb := JSk s b w N hN hgw
        have hp8 := JSO s (rounds w N s)
        rw [← hcb] at hp8
        clear hcb hgw hx
        generalize rounds w N s = r at *
        generalize comp s b = q at *
        simp [hNI]
        refine go_up 8 (fun _ _ => True) (fun j (_ : Unit) c => ⟨[(0, .ptr 1000 0 0), (185, .arr 1 (U r.list)), (186, .v (.int .i64 (j : Nat)))], [(1000, .var 0 (.arr 1 (U (plusL s r j))))], c + 1⟩)
          () _ (Weak.re0 1000 (by simp [JSB, U, St.list])) trivial ?_ ?_
        · intro j _ c hj _
          have hw : IntKind.i64.wrap ((j : Int) + 1) = ((j + 1 : Nat) : Int) := Je (by omega)
          have hj8 : (j : Int) < 8 := by omega
          obtain ⟨g1, g2, g3⟩ := JNZ s r j hj
          have e1 := (List.getElem?_eq_some_iff.1 g1).2
          have e3 := (List.getElem?_eq_some_iff.1 g3).2
          have hpl := JHt s r j (by omega)
          have hrl : r.list.length = 8 := rfl
          generalize s.list.getD j 0 = sj at *
          generalize r.list.getD j 0 = rj at *
          simp [hj8, hj, hpl, hrl, e1, e3]
          simp [JF0, hw, U_set, g2]
          exact ⟨(), _, Weak.re0 1000 (by simp), trivial⟩
        · intro _ c _
          simp [hp8]
          refine Jb (.inl rfl) ?_
          simp [St.list]
end Go.Proofs.YtjlmpdbagmdbiaaDoor.WL
end
