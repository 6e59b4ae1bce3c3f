/-
  copy, clear; bytes and strings.
-/
import Derived.Test.YtngemgmnpcaamaaDoorWl11
namespace Go.Proofs.YtngemgmnpcaamaaDoor.WL
open Go Go.Lib

section
variable {P : Program} {w0 : World} {Ws I0 : Nat → Prop} {C : Ctx}

def splice {α : Type} (zs : List α) (i : Nat) (ys : List α) : List α := zs.take i ++ ys ++ zs.drop (i + ys.length)

theorem length_splice {α : Type} (zs : List α) (i : Nat) (ys : List α) (h : i + ys.length ≤ zs.length) : (splice zs i ys).length = zs.length := by
  simp only [splice, List.length_append, List.length_take, List.length_drop]; omega

theorem Es_splice {sz i : Nat} {zs ys : List AV} {cs d : List Value} (h : Es C sz zs cs) (k : Es C sz ys d) (_hi : i + ys.length ≤ zs.length) : Es C sz (splice zs i ys) (cs.take (i * sz) ++ d ++ cs.drop (i * sz + d.length)) := by
  have h2 := Es_drop (n := i + ys.length) h
  rw [Nat.add_mul, ← Es_length k] at h2
  exact Es_append (Es_append (Es_take h) k) h2

/-- Elements laid over those of an array variable, from its cell 'off' on. -/
def overA (m : Nat → Option Loc) (sz : Nat) (a : AV) (ys : List AV) : Option (Nat × Loc) :=
  match a with
  | .vrow l g off s n _ => match m l with
    | some (.var g' (.arr s' zs)) => if g' = g ∧ s = sz ∧ s' = sz ∧ 0 < sz ∧ off % sz = 0 ∧ ys.length ≤ n ∧ off / sz + ys.length ≤ zs.length then some (l, .var g' (.arr sz (splice zs (off / sz) ys))) else none
    | _ => none
  | _ => none

theorem over_ok (hw : WR w0 Ws I0 C) {sz l : Nat} {a : AV} {x : Value} {ys : List AV} {c' : Loc} {d : List Value} (hp : SV C a x) (h : overA C.m sz a ys = some (l, c')) (hd : Es C sz ys d) :
    ∃ ad n cap w', x = .slice (some ad) n cap ∧ ys.length ≤ n ∧ (storeCells ad d).run P C.w = .ok () w' ∧ C.Le { C with w := w', m := upd C.m l (some c') } ∧ WR w0 Ws I0 { C with w := w', m := upd C.m l (some c') } := by
  unfold overA at h
  split at h
  · rename_i l' g off s n cap
    split at h
    · rename_i g' s' zs hm
      split at h
      · rename_i hc
        obtain ⟨rfl, rfl, rfl, h0, h1, h2, h3⟩ := hc
        simp only [Option.some.injEq, Prod.mk.injEq] at h
        obtain ⟨rfl, rfl⟩ := h
        have hp' : V C (.vrow l' g' off s' n cap) [x] := hp
        simp only [V] at hp'
        obtain ⟨ad, e1, hnc, hmx, hg, k'⟩ := hp'
        obtain rfl := (List.cons.inj e1).1
        obtain ⟨b, hb, ha⟩ := k' _ hm
        obtain ⟨b', cur, T, q1, q2, q3⟩ := hw.locs l' _ hm
        rw [hb] at q1
        obtain rfl := Option.some.inj q1
        simp only [V] at q3
        have hdl := Es_length hd
        have e2 : off / s' * s' = off := by have := Nat.div_add_mod off s'; rw [h1] at this; rw [Nat.mul_comm]; omega
        have hzl := Es_length q3
        have hfit : off + d.length ≤ cur.size := by
          have := Nat.mul_le_mul_right s' h3
          rw [Nat.add_mul, e2] at this
          rw [hdl]
          simp only [Array.length_toList] at hzl
          omega
        have hE := Es_splice q3 hd h3
        rw [e2] at hE
        have hheap := setRow_heap C.w b cur (cur.toList.take off ++ d ++ cur.toList.drop (off + d.length)).toArray T _ q2
        have hput := hw.put hm hb q2 (grownBy_setRow C.w b _) hheap (by simp; omega) (c' := .var g' (.arr s' (splice zs (off / s') ys))) (by simp [Loc.same])
        have hok := hput.2 ⟨b, _, T, hb, hheap, by simp only [V]; exact Es_mono hput.1 _ _ _ (by simpa using hE)⟩
        refine ⟨ad, n, cap, _, rfl, h2, ?_, hput.1, hok⟩
        by_cases hd0 : d = []
        · subst hd0
          have hself : (cur.toList.take off ++ [] ++ cur.toList.drop (off + 0)).toArray = cur := by simp
          simp only [storeCells, List.length_nil, hself, setRow_self C.w b cur T _ q2]
          rfl
        · have hpos : 0 < cap := by
            have : 0 < d.length := List.length_pos_iff.2 hd0
            rcases Nat.eq_zero_or_pos cap with h | h
            · have : ys.length = 0 := by omega
              rw [this] at hdl; omega
            · exact h
          obtain rfl := ha hpos
          have hst := run_storeCells_at P b off T d 0 cur C.w q2 (by simpa using hfit) (Es_oneCell _ _ _ hd)
          simp only [Nat.add_zero] at hst
          exact hst
      · cases h
    · cases h
  · cases h

/-- The elements that a copy takes. -/
def copyN (a : AV) (ys : List AV) : Nat := match a with | .vrow _ _ _ _ n _ => min ys.length n | _ => 0

theorem sim_copy (hw : WR w0 Ws I0 C) {sz l : Nat} {dT sT ty e : TypeId} {a b : AV} {x y : Value} {ys : List AV} {c' : Loc} (hu : P.underlying dT = some (.slice e)) (hs : tsz P e = some sz) (hx : SV C a x) (hy : SV C b y)
    (hsrc : srcA C.m sz b = some ys) (h : overA C.m sz a (ys.take (copyN a ys)) = some (l, c')) :
    ∃ w', (Builtin.copy_ #[dT, sT] ty #[x, y]).run P C.w = .ok (.int .i64 (copyN a ys)) w' ∧ C.Le { C with w := w', m := upd C.m l (some c') } ∧ WR w0 Ws I0 { C with w := w', m := upd C.m l (some c') } := by
  obtain ⟨ao, cap, news, rfl, h1, h2, h3, h4⟩ := src_ok hw hy hsrc
  have hE := Es_take (n := copyN a ys) h3
  obtain ⟨ad, n, cap', w', rfl, k1, k2, k3, k4⟩ := over_ok (P := P) hw hx h hE
  have hn : copyN a ys = min ys.length n := by
    unfold overA at h
    split at h
    · rename_i l' g off s n' cap''
      have hp' : V C (.vrow l' g off s n' cap'') [.slice (some ad) n cap'] := hx
      simp only [V] at hp'
      obtain ⟨a', e1, _⟩ := hp'
      have e2 := (List.cons.inj e1).1
      simp only [Value.slice.injEq] at e2
      obtain ⟨_, rfl, _⟩ := e2
      rfl
    · cases h
  refine ⟨w', ?_, k3, k4⟩
  have hcells : (Builtin.firstCells sz (copyN a ys) (.slice ao ys.length cap)).run P C.w = .ok (news.take (copyN a ys * sz)).toArray C.w := by
    have hnl := Es_length h3
    have hle : copyN a ys * sz ≤ news.length := by rw [hnl]; exact Nat.mul_le_mul_right _ (by rw [hn]; exact Nat.min_le_left _ _)
    rcases h4 with rfl | ⟨bb, o, rfl, hc, _⟩
    · have hn0 : news = [] := List.eq_nil_of_length_eq_zero (by simpa using hnl)
      have hz : copyN a [] = 0 := by rw [hn]; simp
      subst hn0
      rw [hz]
      cases ao with
      | none => simp [Builtin.firstCells]
      | some a' => simp [Builtin.firstCells, loadCells, loadCellsFrom]
    · refine run_firstCells_some (P := P) C.w sz (copyN a ys) ⟨bb, o, none⟩ _ cap _ (by rw [List.length_take, Nat.min_eq_left hle]) (fun j v hj => ?_)
      rw [add_at]
      refine hc j v ?_
      rw [List.getElem?_take] at hj
      split at hj
      · exact hj
      · cases hj
  have hmin : Nat.min ys.length n = copyN a ys := hn.symm
  simp [Builtin.copy_, run_underlying hu, Builtin.lenOf, run_tsz hs, hmin, hcells, k2, goInt]

theorem run_zeroCells {z : Value} {av : AV} {sz : Nat} (hf : flat av = some z.cells.toList) (hl : z.cells.size = sz) (h0 : 0 < sz) (n : Nat) : Es C sz (List.replicate n av) (Builtin.zeroCells z.cells n).toList := by
  have := madeCells_flat (C := C) hf hl h0 n
  unfold madeCells at this
  unfold Builtin.zeroCells
  rw [hl]
  rw [hl] at this
  exact this

def clearN (a : AV) : Nat := match a with | .vrow _ _ _ _ n _ => n | _ => 0

theorem sim_clear (hw : WR w0 Ws I0 C) {sz l : Nat} {t ty e : TypeId} {a z : AV} {x : Value} {cs : List Value} {c' : Loc} (hu : P.underlying t = some (.slice e)) (hs : tzero P e = some cs) (hf : flat z = some cs) (hl : cs.length = sz) (h0 : 0 < sz) (hx : SV C a x)
    (h : overA C.m sz a (List.replicate (clearN a) z) = some (l, c')) :
    ∃ w', (Builtin.clear_ #[t] ty #[x]).run P C.w = .ok (.tuple #[]) w' ∧ C.Le { C with w := w', m := upd C.m l (some c') } ∧ WR w0 Ws I0 { C with w := w', m := upd C.m l (some c') } := by
  obtain ⟨zv, hr, rfl⟩ := run_tzero (P := P) (w := C.w) hs
  have hE := run_zeroCells (C := C) hf (by simpa using hl) h0 (clearN a)
  obtain ⟨ad, n, cap', w', rfl, k1, k2, k3, k4⟩ := over_ok (P := P) hw hx h hE
  have hn : clearN a = n := by
    unfold overA at h
    split at h
    · rename_i l' g off s n' cap''
      have hp' : V C (.vrow l' g off s n' cap'') [.slice (some ad) n cap'] := hx
      simp only [V] at hp'
      obtain ⟨a', e1, _⟩ := hp'
      have e2 := (List.cons.inj e1).1
      simp only [Value.slice.injEq] at e2
      obtain ⟨_, rfl, _⟩ := e2
      rfl
    · cases h
  refine ⟨w', ?_, k3, k4⟩
  rw [hn] at k2
  cases n with
  | zero =>
    have : (Builtin.zeroCells zv.cells 0).toList = [] := by simp [Builtin.zeroCells]
    rw [this] at k2
    simp only [storeCells, Sem.run_pure, Result.ok.injEq, true_and] at k2
    subst k2
    simp [Builtin.clear_, run_underlying hu]
  | succ n => simp [Builtin.clear_, run_underlying hu, hr, k2]

/-! Bytes and strings -/
theorem sim_convS (hw : WR w0 Ws I0 C) {a : AV} {x : Value} {src dst e : TypeId} {xs : List AV} {ns : List Int} (hs : P.underlying src = some (.slice e)) (he : P.underlying e = some (.int .u8)) (hd : P.underlying dst = some .string)
    (hx : SV C a x) (h : srcA C.m 1 a = some xs) (hn : intsOf .u8 xs = some ns) : (convert src dst x).run P C.w = .ok (.string (strOfNums ns)) C.w := by
  obtain ⟨ao, cap, news, rfl, h1, h2, h3, h4⟩ := src_ok hw hx h
  have hc := intsOf_cells hn h3
  have hlen := Es_length h3
  have hl : xs.length = ns.length := by rw [hc] at hlen; simpa using hlen.symm
  have key : ∀ (a : Addr), (loadCells a xs.length).run P C.w = .ok (ns.map (Value.int .u8)).toArray C.w → (convert src dst (.slice (some a) xs.length cap)).run P C.w = .ok (.string (strOfNums ns)) C.w := by
    intro a hload
    rw [run_convert_bytes_string C.w src dst e _ _ cap hs he hd, run_bytesToString C.w _ _ cap ns hload, foldl_push_bytes]
    simp [strOfNums, ByteArray.empty, ByteArray.emptyWithCapacity]
    rfl
  rcases h4 with rfl | ⟨b, o, rfl, hcell, _⟩
  · have hns : ns = [] := List.eq_nil_of_length_eq_zero (by simpa using hl.symm)
    subst hns
    cases ao with
    | none => exact run_convert_bytes_nil C.w src e hs he 0 cap dst hd
    | some a => exact key a (by simp [loadCells, loadCellsFrom])
  · refine key ⟨b, o, none⟩ ?_
    have := run_loadCells_list (P := P) C.w ⟨b, o, none⟩ (ns.map (Value.int .u8)) (fun j v hj => by rw [add_at]; exact hcell j v (by rw [hc]; exact hj))
    rwa [List.length_map, ← hl] at this

def bytesAV (s : ByteArray) : List AV := s.data.toList.map fun b => .v (.int .u8 b.toNat)

theorem Es_bytes (s : ByteArray) : Es C 1 (bytesAV s) (byteCells s) := by
  unfold bytesAV byteCells
  induction s.data.toList with
  | nil => simp [Es]
  | cons b l ih =>
    simp only [List.map_cons, Es]
    exact ⟨[_], _, rfl, rfl, by simp [V, Value.oneCell'], ih⟩

theorem sim_convB (hw : WR w0 Ws I0 C) {s : ByteArray} {x : Value} {src dst e : TypeId} {u : TypeDesc} (hs : P.underlying src = some u) (hd : P.underlying dst = some (.slice e)) (he : P.underlying e = some (.int .u8)) (hx : SV C (.v (.string s)) x) (hm : s.size ≤ maxLen) :
    ∃ y w', (convert src dst x).run P C.w = .ok y w' ∧ C.Le { C with w := w', I := fun k => C.I k ∨ k = C.w.heap.size } ∧ WR w0 Ws I0 { C with w := w', I := fun k => C.I k ∨ k = C.w.heap.size } ∧
      SV { C with w := w', I := fun k => C.I k ∨ k = C.w.heap.size } (.sl 1 (bytesAV s)) y := by
  have hx' : V C (.v (.string s)) [x] := hx
  simp only [V] at hx'
  obtain rfl := (List.cons.inj hx'.1).1
  have hg : C.w.grownBy (bytesWorld C.w e s) none := by
    exact ⟨rfl, rfl, rfl, by rw [bytesWorld_size]; omega, fun k hk _ => bytesWorld_at_old C.w e s k hk⟩
  obtain ⟨k1, k2⟩ := hw.newI hg (Nat.le_refl _) (by rw [bytesWorld_size]; omega)
  refine ⟨_, _, Go.Lib.run_convert_string_bytes C.w src dst e s hs hd he, k1, k2, ?_⟩
  show V _ (.sl 1 (bytesAV s)) [_]
  simp only [V]
  have hlen : (bytesAV s).length = s.size := by simp [bytesAV]
  have hge := grownCap_ge C.w s.size 0 e
  refine ⟨some ⟨C.w.heap.size, 0, none⟩, grownCap C.w s.size 0 e, byteCells s, by rw [hlen], by rw [hlen]; exact hge, grownCap_le_maxLen C.w _ _ _ hm, Es_bytes s, .inr ⟨_, 0, rfl, .inr rfl, ?_⟩⟩
  intro j v hj
  have hjl : j < s.size := by
    have := (List.getElem?_eq_some_iff.1 hj).1
    rwa [byteCells_length] at this
  rw [Nat.zero_add, bytesWorld_cell C.w e s j hjl]
  unfold byteCells at hj
  rw [List.getElem?_map] at hj
  obtain ⟨b, hb, rfl⟩ := Option.map_eq_some_iff.1 hj
  simp [List.getD, hb]

/-- A literal's bytes, marked as a string's: they stay as they are from now on. -/
theorem sim_convM (hw : WR w0 Ws I0 C) {l g n : Nat} {x : Value} {t e : TypeId} {xs : List AV} (hs : P.underlying t = some (.slice e)) (he : P.underlying e = some (.int .u8)) (hx : SV C (.row l 1 g 0 n) x) (hm : C.m l = some (.rows g 1 xs)) (hn : n = xs.length) (h0 : 0 < n) :
    ∃ w' b, (convert t t x).run P C.w = .ok x w' ∧ C.Le { C with w := w', I := fun k => C.I k ∨ k = b, m := upd C.m l none } ∧ WR w0 Ws I0 { C with w := w', I := fun k => C.I k ∨ k = b, m := upd C.m l none } ∧
      SV { C with w := w', I := fun k => C.I k ∨ k = b, m := upd C.m l none } (.sl 1 xs) x := by
  have hx' : V C (.row l 1 g 0 n) [x] := hx
  simp only [V] at hx'
  obtain ⟨ao, cap0, e1, _, _, _, hg, k'⟩ := hx'
  obtain rfl := (List.cons.inj e1).1
  have hrv := k' _ hm
  unfold RowVal at hrv
  split at hrv
  · omega
  · rename_i b hb
    obtain ⟨cur, T, cap, ad, h1, h2, h3, h4, e5, h6⟩ := hrv
    rw [e5]
    obtain rfl := h6 (.inr rfl)
    -- the mark: the world's block b gets it; no cell is turned
    have hfz : (C.w.freeze ⟨b, cur.size, none⟩ 1).heap[b]? = some (.cells cur T (cur.size, cur.size + 1)) := by
      obtain ⟨hlt, hget⟩ := Array.getElem?_eq_some_iff.1 h1
      simp only [World.freeze, Nat.one_ne_zero, if_false, Array.getElem?_modify, if_true, h1, Option.map_some]
      simp
    have hother : ∀ k, k ≠ b → (C.w.freeze ⟨b, cur.size, none⟩ 1).heap[k]? = C.w.heap[k]? := by
      intro k hk
      simp only [World.freeze, Nat.one_ne_zero, if_false, Array.getElem?_modify]
      rw [if_neg (fun e => hk e.symm)]
    have hrun : (convert t t (.slice (some ⟨b, 0 * 1, none⟩) n (cap - 0))).run P C.w = .ok (.slice (some ⟨b, 0 * 1, none⟩) n (cap - 0)) (C.w.freeze ⟨b, cur.size, none⟩ 1) := by
      have hshape : C.w.shape? b = some (T, cur.size) := by simp [World.shape?, h1]
      simp [convert, run_underlying hs, run_underlying he, markStringish, hshape]
    have hsz : (C.w.freeze ⟨b, cur.size, none⟩ 1).heap.size = C.w.heap.size := by simp [World.freeze]
    have hg : C.w.grownBy (C.w.freeze ⟨b, cur.size, none⟩ 1) (some b) :=
      ⟨by simp [World.freeze], by simp [World.freeze], by simp [World.freeze], by omega, fun k _ hn => hother k (by simpa using hn)⟩
    obtain ⟨k1, k2⟩ := hw.freezeW hm hb hg
    refine ⟨_, b, hrun, k1, k2, ?_⟩
    subst hn
    rcases hw.locs l _ hm with ⟨h7, _⟩ | ⟨b', cur', T', cap', h7, h8, h9, h10, h11, h12⟩
    · rw [hb] at h7; cases h7
    · rw [hb] at h7
      obtain rfl := Option.some.inj h7
      rw [h1] at h8
      obtain ⟨rfl, rfl⟩ := (by simpa using h8 : cur = cur' ∧ T = T')
      show V _ (.sl 1 xs) [_]
      simp only [V]
      refine ⟨_, cap - 0, _, rfl, by omega, by omega, Es_mono k1 _ _ _ h12, .inr ⟨b, 0 * 1, rfl, .inr rfl, ?_⟩⟩
      have := cellsAt_block (o := 0) (n := xs.length * 1) hfz
      rwa [List.drop_zero] at this

end
end Go.Proofs.YtngemgmnpcaamaaDoor.WL
