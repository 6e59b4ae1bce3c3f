/-
  VALUES IN SLOTS; parts of a value; loads and stores.
-/
import Derived.Test.YtngemgmnpcaamaaDoorWl2
import Derived.OwnWalk
import Derived.Lib.AppendStr
import Derived.Deep.AppendLies
import Derived.Deep.AppendSrc
import Derived.ArgAppend
namespace Go.Proofs.YtngemgmnpcaamaaDoor.WL
open Go

def AV.isAgg : AV → Bool
  | .node _ | .arr _ _ => true
  | _ => false

/-- A slot holds this value (no tuple). -/
def SV1 (C : Ctx) (a : AV) (x : Value) : Prop :=
  match a with
  | .top => True
  | .tup _ => False
  | .node _ | .arr _ _ => ∃ cs, x = .agg cs ∧ V C a cs.toList
  | _ => V C a [x]

def SVs (C : Ctx) : List AV → List Value → Prop
  | [], xs => xs = []
  | a :: as, xs => ∃ y ys, xs = y :: ys ∧ SV1 C a y ∧ SVs C as ys

def SV (C : Ctx) (a : AV) (x : Value) : Prop :=
  match a with
  | .tup as => ∃ xs, x = .tuple xs ∧ SVs C as xs.toList
  | a => SV1 C a x

theorem SV1.mono {C C' : Ctx} (h : C.Le C') {a : AV} {x : Value} (k : SV1 C a x) : SV1 C' a x := by
  cases a <;> first
    | exact trivial
    | exact V_mono h _ _ k
    | exact k.elim
    | (obtain ⟨cs, e, h1⟩ := k; exact ⟨cs, e, V_mono h _ _ h1⟩)
theorem SVs.mono {C C' : Ctx} (h : C.Le C') : ∀ {as : List AV} {xs : List Value}, SVs C as xs → SVs C' as xs
  | [], _, k => k
  | _ :: _, _, ⟨y, ys, e, h1, h2⟩ => ⟨y, ys, e, h1.mono h, h2.mono h⟩
theorem SV_of1 {C : Ctx} {a : AV} {x : Value} (k : SV1 C a x) : SV C a x := by
  cases a <;> first | exact k.elim | exact k
theorem SV.mono {C C' : Ctx} (h : C.Le C') {a : AV} {x : Value} (k : SV C a x) : SV C' a x := by
  cases a with
  | tup as => obtain ⟨xs, e, h1⟩ := k; exact ⟨xs, e, h1.mono h⟩
  | top => exact trivial
  | v y => exact SV1.mono (a := .v y) h k
  | node as => exact SV1.mono (a := .node as) h k
  | arr sz as => exact SV1.mono (a := .arr sz as) h k
  | sl sz xs => exact SV1.mono (a := .sl sz xs) h k
  | ptr l g off => exact SV1.mono (a := .ptr l g off) h k
  | row l sz g off n => exact SV1.mono (a := .row l sz g off n) h k
  | vrow l g off sz n cap => exact SV1.mono (a := .vrow l g off sz n cap) h k
  | iptr y => exact SV1.mono (a := .iptr y) h k
  | rptr l sz g i off => exact SV1.mono (a := .rptr l sz g i off) h k

/-- An abstract value that is whole: no tuple, nothing unknown at its top. -/
def AV.solid : AV → Bool
  | .top | .tup _ => false
  | _ => true

theorem SV.cells {C : Ctx} {a : AV} {x : Value} (h : SV C a x) (hs : a.solid = true) : V C a x.cells.toList := by
  have one : ∀ y : Value, y.oneCell' = true → y.cells.toList = [y] := by
    intro y hy; cases y <;> simp_all [Value.oneCell', Value.cells]
  have key : V C a [x] → V C a x.cells.toList := fun k => by rw [one x (V_oneCell _ _ k x (by simp))]; exact k
  cases a with
  | top => simp [AV.solid] at hs
  | tup as => simp [AV.solid] at hs
  | node as => obtain ⟨cs, rfl, h1⟩ := h; exact h1
  | arr sz as => obtain ⟨cs, rfl, h1⟩ := h; exact h1
  | v y => exact key h
  | sl sz xs => exact key h
  | ptr l g off => exact key h
  | row l sz g off n => exact key h
  | vrow l g off sz n cap => exact key h
  | iptr y => exact key h
  | rptr l sz g i off => exact key h

theorem SV.oneOf {C : Ctx} {a : AV} {x : Value} (h : SV C a x) (hs : a.solid = true) (hn : a.isAgg = false) : V C a [x] := by
  cases a with
  | top => simp [AV.solid] at hs
  | tup as => simp [AV.solid] at hs
  | node as => simp [AV.isAgg] at hn
  | arr sz as => simp [AV.isAgg] at hn
  | v y => exact h
  | sl sz xs => exact h
  | ptr l g off => exact h
  | row l sz g off n => exact h
  | vrow l g off sz n cap => exact h
  | iptr y => exact h
  | rptr l sz g i off => exact h

theorem SV_agg {C : Ctx} {a : AV} {cs : Array Value} (h : V C a cs.toList) (ha : a.isAgg = true) : SV C a (.agg cs) := by
  cases a <;> simp [AV.isAgg] at ha <;> exact ⟨cs, rfl, h⟩

theorem SV_one {C : Ctx} {a : AV} {x : Value} (h : V C a [x]) (ha : a.isAgg = false) : SV C a x := by
  cases a <;> simp [AV.isAgg] at ha <;> first | exact h | exact trivial | (simp [V] at h)

/-! The part of a value at a place. -/
mutual
def sub (agg : Bool) (sz : Nat) : AV → Nat → Option AV
  | .node cs, off => if off = 0 ∧ AV.sizes cs = sz ∧ agg = true then some (.node cs) else subs agg sz cs off
  | .arr e xs, off => if off = 0 ∧ e * xs.length = sz ∧ agg = true then some (.arr e xs) else
      match e with
      | 0 => none
      | e + 1 => if off % (e + 1) = 0 ∧ sz = e + 1 then (match xs[off / (e + 1)]? with | some x => if x.isAgg = agg ∧ x.size = sz then some x else none | none => none) else none
  | .tup _, _ => none
  | a, off => if off = 0 ∧ sz = 1 ∧ agg = false then some a else none
def subs (agg : Bool) (sz : Nat) : List AV → Nat → Option AV
  | [], _ => none
  | c :: cs, off => if off < c.size then sub agg sz c off else subs agg sz cs (off - c.size)
end

theorem sub_leaf {C : Ctx} {agg : Bool} {sz : Nat} {a r : AV} {off : Nat} {cs : List Value} (ha : a.isAgg = false) (h1 : a.size = 1)
    (h : (if off = 0 ∧ sz = 1 ∧ agg = false then some a else none) = some r) (k : V C a cs) :
    V C r ((cs.drop off).take sz) ∧ off + sz ≤ cs.length ∧ r.isAgg = agg ∧ ((cs.drop off).take sz).length = sz := by
  split at h
  · rename_i hc
    obtain ⟨rfl, rfl, rfl⟩ := hc
    obtain rfl := Option.some.inj h
    have hl := V_size _ _ k
    rw [List.drop_zero, List.take_of_length_le (by omega)]
    exact ⟨k, by omega, ha, by omega⟩
  · cases h

mutual
theorem sub_ok {C : Ctx} {agg : Bool} {sz : Nat} : ∀ (a : AV) (off : Nat) (r : AV) (cs : List Value), sub agg sz a off = some r → V C a cs →
    V C r ((cs.drop off).take sz) ∧ off + sz ≤ cs.length ∧ r.isAgg = agg ∧ ((cs.drop off).take sz).length = sz
  | .node as, off, r, cs, h, k => by
    simp only [sub] at h
    split at h
    · rename_i hc
      obtain ⟨rfl, h2, rfl⟩ := hc
      obtain rfl := Option.some.inj h
      have hl := V_size _ _ k
      simp only [AV.size] at hl
      rw [List.drop_zero, List.take_of_length_le (by omega)]
      exact ⟨k, by omega, rfl, by omega⟩
    · simp only [V] at k
      exact subs_ok as off r cs h k
  | .arr e xs, off, r, cs, h, k => by
    simp only [sub] at h
    split at h
    · rename_i hc
      obtain ⟨rfl, h2, rfl⟩ := hc
      obtain rfl := Option.some.inj h
      have hl := V_size _ _ k
      simp only [AV.size] at hl
      rw [List.drop_zero, List.take_of_length_le (by omega)]
      exact ⟨k, by omega, rfl, by omega⟩
    · cases e with
      | zero => cases h
      | succ e =>
        simp only at h
        split at h
        · rename_i hc
          obtain ⟨h1, rfl⟩ := hc
          split at h
          · rename_i x hx
            split at h
            · rename_i hc2
              obtain rfl := Option.some.inj h
              simp only [V] at k
              have hg := Es_get k hx
              have e1 : off / (e + 1) * (e + 1) = off := by have := Nat.div_add_mod off (e + 1); rw [h1] at this; rw [Nat.mul_comm]; omega
              rw [e1] at hg
              refine ⟨hg.1, ?_, hc2.1, hg.2⟩
              have := hg.2
              simp only [List.length_take, List.length_drop] at this
              omega
            · cases h
          · cases h
        · cases h
  | .tup _, _, _, _, h, _ => by simp [sub] at h
  | .top, off, r, cs, h, k => sub_leaf rfl rfl (by simpa only [sub] using h) k
  | .v x, off, r, cs, h, k => sub_leaf rfl rfl (by simpa only [sub] using h) k
  | .sl s xs, off, r, cs, h, k => sub_leaf rfl rfl (by simpa only [sub] using h) k
  | .ptr l g o, off, r, cs, h, k => sub_leaf rfl rfl (by simpa only [sub] using h) k
  | .row l s g o n, off, r, cs, h, k => sub_leaf rfl rfl (by simpa only [sub] using h) k
  | .vrow l g o s n c, off, r, cs, h, k => sub_leaf rfl rfl (by simpa only [sub] using h) k
  | .iptr x, off, r, cs, h, k => sub_leaf rfl rfl (by simpa only [sub] using h) k
  | .rptr l s g i o, off, r, cs, h, k => sub_leaf rfl rfl (by simpa only [sub] using h) k
theorem subs_ok {C : Ctx} {agg : Bool} {sz : Nat} : ∀ (as : List AV) (off : Nat) (r : AV) (cs : List Value), subs agg sz as off = some r → Vs C as cs →
    V C r ((cs.drop off).take sz) ∧ off + sz ≤ cs.length ∧ r.isAgg = agg ∧ ((cs.drop off).take sz).length = sz
  | [], _, _, _, h, _ => by simp [subs] at h
  | a :: as, off, r, cs, h, k => by
    simp only [subs] at h
    simp only [Vs] at k
    obtain ⟨c1, c2, rfl, h1, h2⟩ := k
    have hl := V_size _ _ h1
    split at h
    · obtain ⟨k1, k2, k3, k4⟩ := sub_ok a off r c1 h h1
      have e : ((c1 ++ c2).drop off).take sz = (c1.drop off).take sz := by
        rw [List.drop_append, List.take_append]
        have : sz - (c1.drop off).length = 0 := by rw [List.length_drop]; omega
        rw [this, List.take_zero, List.append_nil]
      rw [e]
      exact ⟨k1, by rw [List.length_append]; omega, k3, k4⟩
    · obtain ⟨k1, k2, k3, k4⟩ := subs_ok as (off - a.size) r c2 h h2
      have e : (c1 ++ c2).drop off = c2.drop (off - a.size) := by
        rw [List.drop_append, List.drop_of_length_le (l := c1) (by omega), List.nil_append, hl]
      rw [e]
      exact ⟨k1, by rw [List.length_append]; omega, k3, k4⟩
end

/-! Another value in the part's place. -/
mutual
def putAt (agg : Bool) (sz : Nat) (new : AV) : AV → Nat → Option AV
  | .node cs, off => if off = 0 ∧ AV.sizes cs = sz ∧ agg = true then some new else (putsAt agg sz new cs off).map AV.node
  | .arr e xs, off => if off = 0 ∧ e * xs.length = sz ∧ agg = true then some new else
      match e with
      | 0 => none
      | e + 1 => if off % (e + 1) = 0 ∧ sz = e + 1 ∧ off / (e + 1) < xs.length then some (.arr (e + 1) (xs.set (off / (e + 1)) new)) else none
  | .tup _, _ => none
  | _, off => if off = 0 ∧ sz = 1 ∧ agg = false then some new else none
def putsAt (agg : Bool) (sz : Nat) (new : AV) : List AV → Nat → Option (List AV)
  | [], _ => none
  | c :: cs, off => if off < c.size then (putAt agg sz new c off).map (· :: cs) else (putsAt agg sz new cs (off - c.size)).map (c :: ·)
end

theorem put_leaf {C : Ctx} {agg : Bool} {sz : Nat} {a r new : AV} {off : Nat} {cs d : List Value} (h1 : a.size = 1)
    (h : (if off = 0 ∧ sz = 1 ∧ agg = false then some new else none) = some r) (k : V C a cs) (hd : V C new d) (hdl : d.length = sz) :
    V C r (cs.take off ++ d ++ cs.drop (off + sz)) ∧ off + sz ≤ cs.length := by
  split at h
  · rename_i hc
    obtain ⟨rfl, rfl, rfl⟩ := hc
    obtain rfl := Option.some.inj h
    have hl := V_size _ _ k
    rw [List.take_zero, List.nil_append, List.drop_of_length_le (by omega), List.append_nil]
    exact ⟨hd, by omega⟩
  · cases h

theorem put_whole {C : Ctx} {sz : Nat} {new : AV} {cs d : List Value} (hd : V C new d) (hl : cs.length = sz) :
    V C new (cs.take 0 ++ d ++ cs.drop (0 + sz)) ∧ 0 + sz ≤ cs.length := by
  rw [List.take_zero, List.nil_append, List.drop_of_length_le (by omega), List.append_nil]
  exact ⟨hd, by omega⟩

mutual
theorem put_ok {C : Ctx} {agg : Bool} {sz : Nat} {new : AV} {d : List Value} (hd : V C new d) (hdl : d.length = sz) : ∀ (a : AV) (off : Nat) (r : AV) (cs : List Value),
    putAt agg sz new a off = some r → V C a cs → V C r (cs.take off ++ d ++ cs.drop (off + sz)) ∧ off + sz ≤ cs.length
  | .node as, off, r, cs, h, k => by
    simp only [putAt] at h
    split at h
    · rename_i hc
      obtain ⟨rfl, h2, rfl⟩ := hc
      obtain rfl := Option.some.inj h
      have hl := V_size _ _ k
      simp only [AV.size] at hl
      exact put_whole hd (by omega)
    · simp only [Option.map_eq_some_iff] at h
      obtain ⟨as', h1, rfl⟩ := h
      simp only [V] at k ⊢
      exact puts_ok hd hdl as off as' cs h1 k
  | .arr e xs, off, r, cs, h, k => by
    simp only [putAt] at h
    split at h
    · rename_i hc
      obtain ⟨rfl, h2, rfl⟩ := hc
      obtain rfl := Option.some.inj h
      have hl := V_size _ _ k
      simp only [AV.size] at hl
      exact put_whole hd (by omega)
    · cases e with
      | zero => cases h
      | succ e =>
        simp only at h
        split at h
        · rename_i hc
          obtain ⟨h1, rfl, h3⟩ := hc
          obtain rfl := Option.some.inj h
          simp only [V] at k ⊢
          have e1 : off / (e + 1) * (e + 1) = off := by have := Nat.div_add_mod off (e + 1); rw [h1] at this; rw [Nat.mul_comm]; omega
          have hs := Es_set k h3 hdl hd
          rw [e1] at hs
          refine ⟨hs, ?_⟩
          have hl := Es_length k
          have : (off / (e + 1) + 1) * (e + 1) ≤ xs.length * (e + 1) := Nat.mul_le_mul_right _ h3
          rw [Nat.add_mul, e1, Nat.one_mul] at this
          omega
        · cases h
  | .tup _, _, _, _, h, _ => by simp [putAt] at h
  | .top, off, r, cs, h, k => put_leaf rfl (by simpa only [putAt] using h) k hd hdl
  | .v x, off, r, cs, h, k => put_leaf rfl (by simpa only [putAt] using h) k hd hdl
  | .sl s xs, off, r, cs, h, k => put_leaf rfl (by simpa only [putAt] using h) k hd hdl
  | .ptr l g o, off, r, cs, h, k => put_leaf rfl (by simpa only [putAt] using h) k hd hdl
  | .row l s g o n, off, r, cs, h, k => put_leaf rfl (by simpa only [putAt] using h) k hd hdl
  | .vrow l g o s n c, off, r, cs, h, k => put_leaf rfl (by simpa only [putAt] using h) k hd hdl
  | .iptr x, off, r, cs, h, k => put_leaf rfl (by simpa only [putAt] using h) k hd hdl
  | .rptr l s g i o, off, r, cs, h, k => put_leaf rfl (by simpa only [putAt] using h) k hd hdl
theorem puts_ok {C : Ctx} {agg : Bool} {sz : Nat} {new : AV} {d : List Value} (hd : V C new d) (hdl : d.length = sz) : ∀ (as : List AV) (off : Nat) (r : List AV) (cs : List Value),
    putsAt agg sz new as off = some r → Vs C as cs → Vs C r (cs.take off ++ d ++ cs.drop (off + sz)) ∧ off + sz ≤ cs.length
  | [], _, _, _, h, _ => by simp [putsAt] at h
  | a :: as, off, r, cs, h, k => by
    simp only [putsAt] at h
    simp only [Vs] at k
    obtain ⟨c1, c2, rfl, h1, h2⟩ := k
    have hl := V_size _ _ h1
    split at h
    · simp only [Option.map_eq_some_iff] at h
      obtain ⟨a', h3, rfl⟩ := h
      obtain ⟨k1, k2⟩ := put_ok hd hdl a off a' c1 h3 h1
      refine ⟨?_, by rw [List.length_append]; omega⟩
      simp only [Vs]
      refine ⟨_, c2, ?_, k1, h2⟩
      have e : off - c1.length = 0 := by omega
      have e2 : off + sz - c1.length = 0 := by omega
      rw [List.take_append, List.drop_append, e, e2]
      simp [List.append_assoc]
    · simp only [Option.map_eq_some_iff] at h
      obtain ⟨as', h3, rfl⟩ := h
      obtain ⟨k1, k2⟩ := puts_ok hd hdl as (off - a.size) as' c2 h3 h2
      refine ⟨?_, by rw [List.length_append]; omega⟩
      simp only [Vs]
      refine ⟨c1, _, ?_, h1, k1⟩
      have e : off + sz - c1.length = off - a.size + sz := by omega
      rw [List.take_append, List.drop_append, List.take_of_length_le (l := c1) (by omega), List.drop_of_length_le (l := c1) (by omega), e, hl]
      simp [List.append_assoc]
end

end Go.Proofs.YtngemgmnpcaamaaDoor.WL
