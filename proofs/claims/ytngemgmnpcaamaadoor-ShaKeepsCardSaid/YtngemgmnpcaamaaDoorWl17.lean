/-
  CALLS, second part: the same memory under other names.
-/
import Derived.Test.YtngemgmnpcaamaaDoorWl16
namespace Go.Proofs.YtngemgmnpcaamaaDoor.WL
open Go

abbrev Names := List (Nat × Option (Nat × Nat))

/-- A location under its new name k. -/
def FitE (m : Nat → Option Loc) (L : Names) (k : Nat) : Loc → Prop
  | .var _ w => ∃ l g raw, look L k = some (some (l, g)) ∧ m l = some (.var g raw) ∧ Fit m L raw w
  | .rows _ sz ws => (∃ l g xs, look L k = some (some (l, g)) ∧ m l = some (.rows g sz xs) ∧ FitL m L xs ws) ∨ (look L k = some none ∧ ws = [])

def touchE (m : Nat → Option Loc) (L : Names) (k : Nat) (c : Loc) : List Nat :=
  match c with
  | .var _ w => match look L k with
    | some (some (l, _)) => match m l with
      | some (.var _ raw) => touch m raw w
      | _ => []
    | _ => []
  | .rows _ _ ws => match look L k with
    | some (some (l, _)) => match m l with
      | some (.rows _ _ xs) => touchL m xs ws
      | _ => []
    | _ => []

/-- The old name. -/
def src (L : Names) (k : Nat) : Option Nat :=
  match look L k with
  | some (some (l, _)) => some l
  | _ => none

def srcs (L : Names) (M : List (Nat × Loc)) : List Nat := M.filterMap fun e => src L e.1

def StampedLoc (U : Nat → Prop) : Loc → Prop
  | .var g w => U g ∧ Stamped U w
  | .rows g _ ws => U g ∧ StampedL U ws

def reCtx (C : Ctx) (L : Names) (M : List (Nat × Loc)) (T : List Nat) (U : Nat → Prop) : Ctx :=
  ⟨C.w, fun b => C.I b ∨ ∃ t ∈ T, ∃ c, C.m t = some c ∧ C.blk t = some b, fun k => (src L k).bind C.blk, look M, U⟩

structure Named (m : Nat → Option Loc) (L : Names) (M : List (Nat × Loc)) (T : List Nat) (U : Nat → Prop) : Prop where
  nd : (M.map (·.1)).Nodup
  fit : ∀ e ∈ M, FitE m L e.1 e.2
  lent : ∀ e ∈ M, ∀ t ∈ touchE m L e.1 e.2, t ∈ T
  ns : (srcs L M).Nodup
  apart : ∀ t ∈ T, t ∉ srcs L M
  st : ∀ e ∈ M, StampedLoc U e.2

theorem nodup_filterMap_inj {α β : Type} {f : α → Option β} : ∀ {l : List α} {a a' : α} {b : β}, (l.filterMap f).Nodup → a ∈ l → a' ∈ l → f a = some b → f a' = some b → a = a'
  | [], _, _, _, _, h, _, _, _ => by cases h
  | x :: l, a, a', b, hn, h1, h2, e1, e2 => by
    rcases List.mem_cons.1 h1 with k1 | k1 <;> rcases List.mem_cons.1 h2 with k2 | k2
    · rw [k1, k2]
    · rw [← k1, List.filterMap_cons_some e1, List.nodup_cons] at hn
      exact absurd (List.mem_filterMap.2 ⟨a', k2, e2⟩) hn.1
    · rw [← k2, List.filterMap_cons_some e2, List.nodup_cons] at hn
      exact absurd (List.mem_filterMap.2 ⟨a, k1, e1⟩) hn.1
    · refine nodup_filterMap_inj (f := f) ?_ k1 k2 e1 e2
      cases hx : f x with
      | none => rwa [List.filterMap_cons_none hx] at hn
      | some y => rw [List.filterMap_cons_some hx, List.nodup_cons] at hn; exact hn.2

section
variable {w0 : World} {Ws I0 : Nat → Prop} {C : Ctx} {L : Names} {M : List (Nat × Loc)} {T : List Nat} {U : Nat → Prop}

theorem Named.seen (h : Named C.m L M T U) : Seen C (reCtx C L M T U) L T := by
  refine ⟨rfl, fun _ h => .inl h, fun t ht c b hc hb => .inr ⟨t, ht, c, hc, hb⟩, fun k l g hL c' hc => ?_, fun k hL c' hc => ?_⟩
  · have hf := h.fit _ (look_mem hc)
    cases c' with
    | var g' w =>
      obtain ⟨l', g1, raw, h1, h2, h3⟩ := hf
      rw [hL] at h1
      obtain ⟨rfl, rfl⟩ := (by simpa using h1 : l = l' ∧ g = g1)
      exact ⟨_, h2, rfl, by simp [reCtx, src, hL], trivial⟩
    | rows g' sz ws =>
      rcases hf with ⟨l', g1, raw, h1, h2, h3⟩ | ⟨h1, _⟩
      · rw [hL] at h1
        obtain ⟨rfl, rfl⟩ := (by simpa using h1 : l = l' ∧ g = g1)
        exact ⟨_, h2, rfl, by simp [reCtx, src, hL], rfl⟩
      · rw [hL] at h1; simp at h1
  · simp [reCtx, src, hL]

theorem Named.locs (hw : WR w0 Ws I0 C) (h : Named C.m L M T U) : ∀ l c, (reCtx C L M T U).m l = some c → LocOk (reCtx C L M T U) l c := by
  intro k c hc
  have hmem := look_mem hc
  have hf := h.fit _ hmem
  have hst := h.st _ hmem
  have ht := h.lent _ hmem
  cases c with
  | var g' w =>
    obtain ⟨l, g1, raw, h1, h2, h3⟩ := hf
    obtain ⟨b, cur, Ty, k1, k2, k3⟩ := hw.locs l _ h2
    refine ⟨b, cur, Ty, by simp [reCtx, src, h1, k1], k2, ?_⟩
    exact V_fit hw h.seen w raw _ h3 (fun t htt => ht t (by simpa [touchE, h1, h2] using htt)) hst.2 k3
  | rows g' sz ws =>
    rcases hf with ⟨l, g1, xs, h1, h2, h3⟩ | ⟨h1, rfl⟩
    · have hlen := FitL_length h3
      rcases hw.locs l _ h2 with ⟨k1, k2⟩ | ⟨b, cur, Ty, cap, k1, k2, k3, k4, k5, k6⟩
      · left
        refine ⟨by simp [reCtx, src, h1, k1], ?_⟩
        subst k2
        exact List.eq_nil_of_length_eq_zero (by simpa using hlen.symm)
      · right
        refine ⟨b, cur, Ty, cap, by simp [reCtx, src, h1, k1], k2, k3, k4, by omega, ?_⟩
        rw [← hlen]
        exact Es_fit hw h.seen sz ws xs _ h3 (fun t htt => ht t (by simpa [touchE, h1, h2] using htt)) hst.2 k6
    · left
      exact ⟨by simp [reCtx, src, h1], rfl⟩

/-- A name's source is a location. -/
theorem Named.source (h : Named C.m L M T U) {k : Nat} {c : Loc} {b : Nat} (hc : (reCtx C L M T U).m k = some c) (hb : (reCtx C L M T U).blk k = some b) :
    ∃ l c0, src L k = some l ∧ C.m l = some c0 ∧ C.blk l = some b ∧ l ∈ srcs L M := by
  have hmem := look_mem hc
  have hf := h.fit _ hmem
  simp only [reCtx, Option.bind_eq_some_iff] at hb
  obtain ⟨l, h1, h2⟩ := hb
  have h3 : ∃ c0, C.m l = some c0 := by
    unfold src at h1
    split at h1
    · rename_i l' g' hL
      obtain rfl := Option.some.inj h1
      cases c with
      | var g w =>
        obtain ⟨l2, g2, raw, e1, e2, _⟩ := hf
        simp only at e1
        rw [hL] at e1
        obtain ⟨rfl, rfl⟩ := (by simpa using e1 : l' = l2 ∧ g' = g2)
        exact ⟨_, e2⟩
      | rows g sz ws =>
        rcases hf with ⟨l2, g2, raw, e1, e2, _⟩ | ⟨e1, _⟩
        · simp only at e1
          rw [hL] at e1
          obtain ⟨rfl, rfl⟩ := (by simpa using e1 : l' = l2 ∧ g' = g2)
          exact ⟨_, e2⟩
        · simp only at e1
          rw [hL] at e1; simp at e1
    · cases h1
  obtain ⟨c0, h3⟩ := h3
  exact ⟨l, c0, h1, h3, h2, List.mem_filterMap.2 ⟨(k, c), hmem, h1⟩⟩

theorem Named.wr (hw : WR w0 Ws I0 C) (h : Named C.m L M T U) {w1 : World} {Ws1 I1 : Nat → Prop} (hI1 : ∀ k, I1 k → (reCtx C L M T U).I k)
    (hown : ∀ l c b, l ∈ srcs L M → C.m l = some c → C.blk l = some b → Ws1 b ∨ w1.heap.size ≤ b) (himm : ∀ k, (reCtx C L M T U).I k → I1 k ∨ Ws1 k ∨ w1.heap.size ≤ k)
    (os : C.w.os = w1.os) (tape : C.w.tape = w1.tape) (output : C.w.output = w1.output) (size : w1.heap.size ≤ C.w.heap.size) (block : ∀ k, k < w1.heap.size → ¬ Ws1 k → C.w.heap[k]? = w1.heap[k]?) :
    WR w1 Ws1 I1 (reCtx C L M T U) := by
  refine ⟨h.locs hw, fun k k' c c' b h1 h2 h3 h4 => ?_, fun k c b h1 h2 => ?_, fun k hk => ⟨?_, himm k hk⟩, hI1, fun k c hc => ?_, os, tape, output, size, block⟩
  · obtain ⟨l, c0, e1, e2, e3, _⟩ := h.source h1 h3
    obtain ⟨l', c0', e1', e2', e3', _⟩ := h.source h2 h4
    obtain rfl := hw.inj l l' c0 c0' b e2 e2' e3 e3'
    have := nodup_filterMap_inj (f := fun e : Nat × Loc => src L e.1) h.ns (look_mem h1) (look_mem h2) e1 e1'
    exact congrArg Prod.fst this
  · obtain ⟨l, c0, e1, e2, e3, e4⟩ := h.source h1 h2
    obtain ⟨k1, k2, k3⟩ := hw.own l c0 b e2 e3
    refine ⟨k1, ?_, hown l c0 b e4 e2 e3⟩
    rintro (hI | ⟨t, ht, ct, hct, hbt⟩)
    · exact k2 hI
    · obtain rfl := hw.inj l t c0 ct b e2 hct e3 hbt
      exact h.apart _ ht e4
  · rcases hk with hk | ⟨t, ht, ct, hct, hbt⟩
    · exact (hw.imm k hk).1
    · exact (hw.own t ct k hct hbt).1
  · have := h.st _ (look_mem hc)
    cases c <;> exact this.1

end
end Go.Proofs.YtngemgmnpcaamaaDoor.WL
