/-
  append.
-/
import Derived.Test.YtngemgmnpcaamaaDoorWl10
namespace Go.Proofs.YtngemgmnpcaamaaDoor.WL
open Go

section
variable {P : Program} {w0 : World} {Ws I0 : Nat → Prop} {C : Ctx}

/-- Zeros that an append makes itself. -/
structure Mk0 (P : Program) (sz : Nat) (tx e : TypeId) (x : Value) (n : Nat) (news : List Value) : Prop where
  kind : ∃ k, P.underlying tx = some (.int k)
  x : ∃ k i, x = .int k i ∧ IntKind.i64.wrap i = (n : Int)
  bytes : ∃ b, (P.info? e).map (·.bytes) = some b ∧ n * b ≤ 140737488355328
  zero : ∃ z, tzero P e = some z ∧ z.length = sz ∧ news = (Builtin.zeroCells z.toArray n).toList ∧ 0 < sz
  newsLen : news.length = n * sz
  one : ∀ u ∈ news, u.oneCell' = true

/-- What an append takes. -/
def App (P : Program) (sz : Nat) (tx e : TypeId) (x : Value) (n : Nat) (news : List Value) (w : World) : Prop := Src P sz tx x n news w ∨ Mk0 P sz tx e x n news

theorem run_asInt (P : Program) (k : IntKind) (i : Int) (w : World) : (asInt (.int k i)).run P w = .ok i w := rfl
theorem tzero_eq {t : TypeId} {cs : List Value} (h : tzero P t = some cs) : ∃ i z, P.info? t = some i ∧ i.zero = some z ∧ z.cells.toList = cs := by
  unfold tzero at h
  simp only [Option.bind_eq_some_iff, Option.map_eq_some_iff] at h
  obtain ⟨i, hi, z, hz, e⟩ := h
  exact ⟨i, z, hi, hz, e⟩

theorem run_append_roomT {w : World} {t tx ty e : TypeId} {sz b sLen sCap n : Nat} {x : Value} {news : List Value} {cur : Array Value} {T : TypeId} (ht : P.underlying t = some (.slice e)) (hsz : tsz P e = some sz) (hs : App P sz tx e x n news w)
    (hg : w.heap[b]? = some (.cells cur T (0, 0))) (hfit : sLen * sz + news.length ≤ cur.size) (hroom : sLen + n ≤ sCap) :
    (Builtin.append_ #[t, tx] ty #[.slice (some ⟨b, 0, none⟩) sLen sCap, x]).run P w = .ok (.slice (some ⟨b, 0, none⟩) (sLen + n) sCap) (w.setRow b (cur.toList.take (sLen * sz) ++ news ++ cur.toList.drop (sLen * sz + news.length)).toArray) := by
  rcases hs with hs | hs
  · have hst := run_storeCells_at P b (sLen * sz) T news 0 cur w hg (by simpa using hfit) hs.one
    simp only [Nat.add_zero] at hst
    rcases hs.kind with ⟨e', hk⟩ | hk <;> simp [Builtin.append_, run_underlying ht, run_underlying hk, run_tsz hsz, hs.len, hroom, hs.cells, add_at, hst]
  · have hst := run_storeCells_at P b (sLen * sz) T news 0 cur w hg (by simpa using hfit) hs.one
    simp only [Nat.add_zero] at hst
    obtain ⟨k, hk⟩ := hs.kind
    obtain ⟨k', i, rfl, hwr⟩ := hs.x
    obtain ⟨bb, hb, hb2⟩ := hs.bytes
    obtain ⟨zc, hz, hzl, hnews, h0⟩ := hs.zero
    obtain ⟨inf, z, hi, hiz, hzc⟩ := tzero_eq hz
    have hib : inf.bytes = bb := by simpa [hi] using hb
    have hlt : ¬ ((n : Int) < 0) := by omega
    have h48 : ¬ (281474976710656 < (n : Int) * (inf.bytes : Int)) := by
      rw [hib]
      have : ((n * bb : Nat) : Int) = (n : Int) * (bb : Int) := Int.natCast_mul n bb
      omega
    have hz2 : z.cells = zc.toArray := by rw [← hzc]
    by_cases hn : n = 0
    · subst hn
      have : news = [] := List.eq_nil_of_length_eq_zero (by simpa using hs.newsLen)
      subst this
      have hr2 : sLen ≤ sCap := by omega
      have hwr0 : IntKind.i64.wrap i = 0 := by simpa using hwr
      simp [Builtin.append_, run_underlying ht, run_underlying hk, run_tsz hsz, typeInfo, hi, run_asInt, hwr0, hr2, storeCells]
      simpa [storeCells] using hst
    · have hne : ¬ (n = 0 ∨ sz = 0) := by omega
      have hne2 : ¬ (n * sz = 0) := by rw [Nat.mul_eq_zero]; exact hne
      simp [Builtin.append_, run_underlying ht, run_underlying hk, run_tsz hsz, typeInfo, zeroValue, hi, hiz, run_asInt, hwr, h48, hroom, hlt, hne2, hz2, add_at]
      rw [← hnews]
      simp [hst, hlt, hne2]

theorem run_append_none {w : World} {t tx ty e : TypeId} {sz : Nat} {x : Value} {ao : Option Addr} (ht : P.underlying t = some (.slice e)) (hsz : tsz P e = some sz) (hs : App P sz tx e x 0 [] w) :
    (Builtin.append_ #[t, tx] ty #[.slice ao 0 0, x]).run P w = .ok (.slice ao 0 0) w := by
  rcases hs with hs | hs
  · rcases hs.kind with ⟨e', hk⟩ | hk <;> cases ao <;> simp [Builtin.append_, run_underlying ht, run_underlying hk, run_tsz hsz, hs.len, hs.cells, storeCells]
  · obtain ⟨k, hk⟩ := hs.kind
    obtain ⟨k', i, rfl, hwr⟩ := hs.x
    obtain ⟨zc, hz, hzl, hnews, h0⟩ := hs.zero
    obtain ⟨inf, z, hi, hiz, hzc⟩ := tzero_eq hz
    cases ao <;> simp [Builtin.append_, run_underlying ht, run_underlying hk, run_tsz hsz, typeInfo, hi, run_asInt, hwr, storeCells]

/-- There is no room: zeros in a new row. -/
theorem run_append_grow_mk {w : World} {t tx ty e : TypeId} {i : TypeInfo} {z : Value} (ht : P.underlying t = some (.slice e)) (hi : P.info? e = some i) (hz : i.zero = some z) (base : Option Addr) (sLen sCap : Nat) (olds : List Value)
    (hold : (Builtin.firstCells i.size sLen (.slice base sLen sCap)).run P w.drew = .ok olds.toArray w.drew) (x : Value) (n : Nat) (news : List Value) (hs : Mk0 P i.size tx e x n news)
    (hg : sCap < sLen + n) (h63 : ((sLen + n : Nat) : Int) ≤ 9223372036854775807) (hfit : Builtin.nextslicecap (sLen + n) sCap * i.bytes ≤ 281474976710656) :
    (Builtin.append_ #[t, tx] ty #[.slice base sLen sCap, x]).run P w =
      .ok (.slice (some ⟨w.heap.size, 0, none⟩) (sLen + n) (grownCap w (sLen + n) sCap e))
        (w.drew.alloc (.cells ((olds ++ news).toArray ++ Builtin.zeroCells z.cells (grownCap w (sLen + n) sCap e - (sLen + n))) e)) := by
  have hn : ¬ (sLen + n ≤ sCap) := by omega
  have h63' : ¬ (9223372036854775807 < ((sLen : Int) + (n : Int))) := by omega
  have h48' : ¬ (281474976710656 < Builtin.nextslicecap (sLen + n) sCap * i.bytes) := by omega
  obtain ⟨k, hk⟩ := hs.kind
  obtain ⟨k', j, rfl, hwr⟩ := hs.x
  obtain ⟨bb, hb, hb2⟩ := hs.bytes
  obtain ⟨zc, hzc, hzl, hnews, h0⟩ := hs.zero
  obtain ⟨inf, z', hi', hiz', hzc'⟩ := tzero_eq hzc
  rw [hi] at hi'
  obtain rfl := Option.some.inj hi'
  rw [hz] at hiz'
  obtain rfl := Option.some.inj hiz'
  have hib : i.bytes = bb := by simpa [hi] using hb
  have h48 : ¬ (281474976710656 < (n : Int) * (i.bytes : Int)) := by
    rw [hib]
    have : ((n * bb : Nat) : Int) = (n : Int) * (bb : Int) := Int.natCast_mul n bb
    omega
  have hz2 : z.cells = zc.toArray := by rw [← hzc']
  by_cases hn0 : n = 0
  · subst hn0
    have : news = [] := List.eq_nil_of_length_eq_zero (by simpa using hs.newsLen)
    subst this
    have hr2 : ¬ (sLen ≤ sCap) := by omega
    have hwr0 : IntKind.i64.wrap j = 0 := by simpa using hwr
    have h63'' : ¬ (9223372036854775807 < (sLen : Int)) := by omega
    have h48'' : ¬ (281474976710656 < Builtin.nextslicecap sLen sCap * i.bytes) := by simpa using h48'
    simp [Builtin.append_, run_underlying ht, run_underlying hk, sizeOf, typeInfo, zeroValue, hi, hz, run_asInt, hwr0, hr2, h63'', h48'', Question.forced, hold, newRow, grownCap]
  · have hlt : ¬ ((n : Int) < 0) := by omega
    have hne2 : ¬ (n * i.size = 0) := by rw [Nat.mul_eq_zero]; omega
    simp [Builtin.append_, run_underlying ht, run_underlying hk, sizeOf, typeInfo, zeroValue, hi, hz, run_asInt, hwr, h48, hn, h63', h48', Question.forced, hold, newRow, grownCap, hlt, hne2]
    rw [hz2, hnews]
    congr 2
    apply Array.ext'
    simp [List.append_assoc]

theorem grownBy_of_drew {w w' : World} {row : Option Nat} (h : w.drew.grownBy w' row) : w.grownBy w' row := ⟨h.os, h.tape, h.output, h.size, h.block⟩

/-- What append asks of the element type. -/
structure ElemOk (P : Program) (t e : TypeId) (sz bytes : Nat) : Prop where
  ht : P.underlying t = some (.slice e)
  hs : tsz P e = some sz
  h0 : 0 < sz
  hb : (P.info? e).map (·.bytes) = some bytes
  hz : ∃ z, (P.info? e).bind (·.zero) = some z ∧ z.cells.size = sz

/-- Where an append goes: nothing is there yet, or a row of a location's own with all its elements. -/
def Dest (C : Ctx) (l sz : Nat) (xs : List AV) (ao : Option Addr) (n cap : Nat) : Prop :=
  (xs = [] ∧ n = 0 ∧ cap = 0) ∨ ∃ c b cur T, C.m l = some c ∧ C.blk l = some b ∧ ao = some ⟨b, 0, none⟩ ∧ C.w.heap[b]? = some (.cells cur T (0, 0)) ∧ cur.size = cap * sz ∧ cap ≤ maxLen ∧
    n = xs.length ∧ xs.length ≤ cap ∧ Es C sz xs (cur.toList.take (n * sz))

theorem sim_append (h : WR w0 Ws I0 C) {l g sz bytes n cap : Nat} {t tx ty e : TypeId} {ao : Option Addr} {x : Value} {xs ys : List AV} {news : List Value} (hnew : ¬ C.used g) (he : ElemOk P t e sz bytes)
    (hd : Dest C l sz xs ao n cap) (hs : App P sz tx e x ys.length news C.w) (hy : Es C sz ys news) (hm : n + ys.length ≤ maxLen) (hby : (n + ys.length) * bytes ≤ 140737488355328) :
    ∃ y w' B, (Builtin.append_ #[t, tx] ty #[.slice ao n cap, x]).run P C.w = .ok y w' ∧ C.Le (newAt C w' l g B (.rows g sz (xs ++ ys))) ∧ WR w0 Ws I0 (newAt C w' l g B (.rows g sz (xs ++ ys))) ∧
      SV (newAt C w' l g B (.rows g sz (xs ++ ys))) (.row l sz g 0 (n + ys.length)) y := by
  obtain ⟨i, hi⟩ : ∃ i, P.info? e = some i := by
    have := he.hs; unfold tsz at this
    cases hq : P.info? e with
    | none => simp [hq] at this
    | some i => exact ⟨i, rfl⟩
  have hisz : i.size = sz := by have := he.hs; simpa [tsz, hi] using this
  have hiby : i.bytes = bytes := by have := he.hb; simpa [hi] using this
  obtain ⟨z, hz, hzs⟩ := he.hz
  have hiz : i.zero = some z := by simpa [hi] using hz
  have hnx : n = xs.length := by rcases hd with ⟨rfl, rfl, rfl⟩ | ⟨_, _, _, _, _, _, _, _, _, _, h, _⟩ <;> first | rfl | exact h
  have hylen := Es_length hy
  by_cases hroom : n + ys.length ≤ cap
  · rcases hd with ⟨rfl, rfl, rfl⟩ | ⟨c, b, cur, T, h1, h2, rfl, h4, h5, h6, h7, h8, h9⟩
    · -- nothing there, nothing appended
      have hy0 : ys = [] := List.eq_nil_of_length_eq_zero (by omega)
      subst hy0
      have hn0 : news = [] := List.eq_nil_of_length_eq_zero (by simpa using hylen)
      subst hn0
      have hr := h.regen (l := l) (g := g) (c' := .rows g sz ([] ++ [])) (w' := C.w) (row := none) (B := none) (World.grownBy.refl C.w none) rfl hnew (.inl rfl) (.inl rfl)
      refine ⟨_, C.w, none, run_append_none he.ht he.hs hs, hr.1, hr.2 (.inl ⟨by simp, rfl⟩), ?_⟩
      show V _ (.row l sz g 0 _) [_]
      simp only [V]
      refine ⟨ao, 0, rfl, by simp, by simp [maxLen], fun h => by simp at h, .inr rfl, fun xs' _ => ?_⟩
      unfold RowVal
      simp only [newAt, upd_same]
      exact ⟨trivial, rfl, ao, rfl⟩
    · -- room in the row
      have hfit : n * sz + news.length ≤ cur.size := by
        rw [hylen, h5, ← Nat.add_mul]; exact Nat.mul_le_mul_right _ hroom
      have hrun := run_append_roomT (P := P) (ty := ty) he.ht he.hs hs h4 hfit hroom
      have hr := h.regen (l := l) (g := g) (c' := .rows g sz (xs ++ ys)) (row := some b) (B := some b) (grownBy_setRow C.w b (cur.toList.take (n * sz) ++ news ++ cur.toList.drop (n * sz + news.length)).toArray) rfl hnew
        (.inr ⟨c, h1, h2.symm⟩) (.inr (.inl ⟨c, h1, h2.symm⟩))
      have hheap := setRow_heap C.w b cur (cur.toList.take (n * sz) ++ news ++ cur.toList.drop (n * sz + news.length)).toArray T _ h4
      have hsize : (cur.toList.take (n * sz) ++ news ++ cur.toList.drop (n * sz + news.length)).toArray.size = cap * sz := by
        simp; omega
      refine ⟨_, _, some b, hrun, hr.1, hr.2 (.inr ⟨b, _, T, cap, by simp, hheap, hsize, h6, ?_, ?_⟩), ?_⟩
      · rw [List.length_append]; omega
      · have e1 : ((cur.toList.take (n * sz) ++ news ++ cur.toList.drop (n * sz + news.length)).toArray.toList).take ((xs ++ ys).length * sz) = cur.toList.take (n * sz) ++ news := by
          have e2 : (xs ++ ys).length * sz = (cur.toList.take (n * sz) ++ news).length := by
            rw [List.length_append, List.length_append, hylen, List.length_take, Nat.add_mul, ← h7, Nat.min_eq_left (by simp; omega)]
          rw [e2]
          simp only [List.take_left]
        rw [e1]
        exact Es_mono hr.1 _ _ _ (Es_append h9 hy)
      · show V _ (.row l sz g 0 _) [_]
        simp only [V]
        refine ⟨_, _, rfl, hroom, h6, fun _ => rfl, .inr rfl, fun xs' hc => ?_⟩
        simp only [newAt, upd_same, Option.some.injEq, Loc.rows.injEq, true_and] at hc
        subst hc
        unfold RowVal
        simp only [newAt, upd_same]
        exact ⟨_, T, cap, _, hheap, hsize, h6, by omega, rfl, fun _ => by simp⟩
  · -- a new row
    obtain ⟨olds, ho1, ho2⟩ : ∃ olds, (Builtin.firstCells i.size n (.slice ao n cap)).run P C.w.drew = .ok olds.toArray C.w.drew ∧ Es C sz xs olds := by
      rcases hd with ⟨rfl, rfl, rfl⟩ | ⟨c, b, cur, T, h1, h2, rfl, h4, h5, h6, h7, h8, h9⟩
      · refine ⟨[], ?_, Es_nil⟩
        cases ao with
        | none => simp [Builtin.firstCells]
        | some a => simp [Builtin.firstCells, loadCells, loadCellsFrom]
      · refine ⟨cur.toList.take (n * sz), ?_, h9⟩
        refine run_firstCells_some (P := P) C.w.drew i.size n ⟨b, 0, none⟩ n cap _ (by rw [hisz, List.length_take]; have := Nat.mul_le_mul_right sz h8; rw [Array.length_toList, h5, Nat.min_eq_left (by rw [h7]; exact this)]) (fun j v hj => ?_)
        rw [add_at, World.cell?_drew]
        have := cellsAt_block (o := 0) (n := n * sz) h4 j v (by rw [List.drop_zero]; exact hj)
        simpa using this
    have hg : cap < n + ys.length := by omega
    have hfit := growslice_fits hg (by rw [← hiby] at hby; exact hby)
    have hrun : (Builtin.append_ #[t, tx] ty #[.slice ao n cap, x]).run P C.w = .ok (.slice (some ⟨C.w.heap.size, 0, none⟩) (n + ys.length) (grownCap C.w (n + ys.length) cap e))
        (C.w.drew.alloc (.cells ((olds ++ news).toArray ++ Builtin.zeroCells z.cells (grownCap C.w (n + ys.length) cap e - (n + ys.length))) e)) := by
      rcases hs with hs | hs
      · exact run_append_grow_src (P := P) C.w t tx ty e i z he.ht hi hiz ao n cap olds ho1 x ys.length news (by rw [hisz]; exact hs) hg (by unfold maxLen at hm; omega) hfit
      · exact run_append_grow_mk (P := P) he.ht hi hiz ao n cap olds ho1 x ys.length news (by rw [hisz]; exact hs) hg (by unfold maxLen at hm; omega) hfit
    have hcap := grownCap_ge C.w (n + ys.length) cap e
    have hcap2 := grownCap_le_maxLen C.w (n + ys.length) cap e hm
    have hr := h.regen (l := l) (g := g) (c' := .rows g sz (xs ++ ys)) (w' := C.w.drew.alloc (.cells ((olds ++ news).toArray ++ Builtin.zeroCells z.cells (grownCap C.w (n + ys.length) cap e - (n + ys.length))) e)) (row := none) (B := some C.w.heap.size)
      (grownBy_of_drew (World.grownBy_alloc C.w.drew _ none)) rfl hnew (.inl rfl) (.inr (.inr ⟨_, rfl, Nat.le_refl _, by simp⟩))
    have hheap : (C.w.drew.alloc (.cells ((olds ++ news).toArray ++ Builtin.zeroCells z.cells (grownCap C.w (n + ys.length) cap e - (n + ys.length))) e)).heap[C.w.heap.size]? = some (.cells ((olds ++ news).toArray ++ Builtin.zeroCells z.cells (grownCap C.w (n + ys.length) cap e - (n + ys.length))) e (0, 0)) := heap_alloc_new C.w.drew _
    have holen := Es_length ho2
    have hE := Es_append ho2 hy
    have hElen := Es_length hE
    have hsize : ((olds ++ news).toArray ++ Builtin.zeroCells z.cells (grownCap C.w (n + ys.length) cap e - (n + ys.length))).size = grownCap C.w (n + ys.length) cap e * sz := by
      rw [Array.size_append, List.size_toArray, size_zeroCells, hzs, hElen, List.length_append, ← hnx, ← Nat.add_mul]
      congr 1
      omega
    refine ⟨_, _, some C.w.heap.size, hrun, hr.1, hr.2 (.inr ⟨C.w.heap.size, _, e, _, by simp, hheap, hsize, hcap2, ?_, ?_⟩), ?_⟩
    · rw [List.length_append]; omega
    · rw [Array.toList_append, List.take_append_of_le_length (by rw [← hElen]; simp), ← hElen]
      simp only [List.take_length]
      exact Es_mono hr.1 _ _ _ hE
    · show V _ (.row l sz g 0 _) [_]
      simp only [V]
      refine ⟨_, _, rfl, hcap, hcap2, fun _ => rfl, .inr rfl, fun xs' hc => ?_⟩
      simp only [newAt, upd_same, Option.some.injEq, Loc.rows.injEq, true_and] at hc
      subst hc
      unfold RowVal
      simp only [newAt, upd_same]
      exact ⟨_, e, _, _, hheap, hsize, hcap2, by omega, rfl, fun _ => by simp⟩

/-- Where an append goes, by the abstract value. -/
def destA (m : Nat → Option Loc) (d sz : Nat) (a : AV) : Option (Nat × List AV) :=
  match a with
  | .v (.slice none 0 0) => some (d, [])
  | .row l s0 g 0 n => match m l with
    | some (.rows g' s xs) => if g' = g ∧ s = s0 ∧ s = sz ∧ n = xs.length then some (l, xs) else none
    | _ => none
  | _ => none

theorem dest_ok (hw : WR w0 Ws I0 C) {d sz l : Nat} {a : AV} {x : Value} {xs : List AV} (hp : SV C a x) (h : destA C.m d sz a = some (l, xs)) :
    ∃ ao cap, x = .slice ao xs.length cap ∧ Dest C l sz xs ao xs.length cap := by
  unfold destA at h
  split at h
  · simp only [Option.some.injEq, Prod.mk.injEq] at h
    obtain ⟨rfl, rfl⟩ := h
    have hp' : V C (.v (.slice none 0 0)) [x] := hp
    simp only [V] at hp'
    obtain rfl := (List.cons.inj hp'.1).1
    exact ⟨none, 0, rfl, .inl ⟨rfl, rfl, rfl⟩⟩
  · rename_i l' s0 g n
    split at h
    · rename_i g' s zs hm
      split at h
      · rename_i hc
        obtain ⟨rfl, rfl, rfl, rfl⟩ := hc
        simp only [Option.some.injEq, Prod.mk.injEq] at h
        obtain ⟨rfl, rfl⟩ := h
        have hp' : V C (.row l' s g' 0 zs.length) [x] := hp
        simp only [V] at hp'
        obtain ⟨ao, cap0, e1, hnc0, hmx0, hso, hg, k'⟩ := hp'
        obtain rfl := (List.cons.inj e1).1
        have hrv := k' _ hm
        unfold RowVal at hrv
        split at hrv
        · obtain ⟨_, hz, ao, e5⟩ := hrv
          have : zs = [] := List.eq_nil_of_length_eq_zero hz
          subst this
          exact ⟨_, _, rfl, .inl ⟨rfl, rfl, (by simpa using e5 : _ ∧ cap0 = 0).2⟩⟩
        · rename_i b hb
          obtain ⟨cur, T, cap, ad, h1, h2, h3, h4, e5, h6⟩ := hrv
          rw [e5]
          rcases hw.locs l' _ hm with ⟨h7, _⟩ | ⟨b', cur', T', cap', h7, h8, h9, h10, h11, h12⟩
          · rw [hb] at h7; cases h7
          · rw [hb] at h7
            obtain rfl := Option.some.inj h7
            rw [h1] at h8
            obtain ⟨rfl, rfl⟩ := (by simpa using h8 : cur = cur' ∧ T = T')
            refine ⟨some ad, cap - 0, rfl, .inr ⟨_, b, cur, T, hm, hb, by rw [h6 (.inr rfl)]; simp, h1, by simpa using h2, by simpa using h3, rfl, by omega, h12⟩⟩
      · cases h
    · cases h
  · cases h

theorem src_of {sz : Nat} {tx e' : TypeId} {xs : List AV} {ao : Option Addr} {cap : Nat} {news : List Value} {w : World} (hk : P.underlying tx = some (.slice e')) (hE : Es C sz xs news)
    (hc : xs = [] ∨ ∃ b o, ao = some ⟨b, o, none⟩ ∧ CellsAt w b o news) : Src P sz tx (.slice ao xs.length cap) xs.length news w := by
  have hl := Es_length hE
  have h1 := Es_oneCell _ _ _ hE
  rcases hc with rfl | ⟨b, o, rfl, hc⟩
  · have hn : news = [] := List.eq_nil_of_length_eq_zero (by simpa using hl)
    subst hn
    cases ao with
    | none => exact Src.ofNil w hk cap
    | some a => exact Src.ofSlice w hk a 0 cap [] (by simp) (fun j u h => by simp at h) (fun u h => by cases h)
  · exact Src.ofSlice w hk ⟨b, o, none⟩ _ cap news hl (fun j u hu => by rw [add_at]; exact hc j u hu) h1

end
end Go.Proofs.YtngemgmnpcaamaaDoor.WL
