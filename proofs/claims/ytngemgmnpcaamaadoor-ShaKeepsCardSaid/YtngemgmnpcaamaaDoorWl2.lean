/-
  THE WORLD HOLDS THE LOCATIONS: what each kind of change keeps.
-/
import Derived.Test.YtngemgmnpcaamaaDoorWl1
namespace Go.Proofs.YtngemgmnpcaamaaDoor.WL
open Go

/-- A function, turned at one place. -/
def upd {α : Type} (f : Nat → α) (k : Nat) (v : α) : Nat → α := fun j => if j = k then v else f j
@[simp] theorem upd_same {α : Type} (f : Nat → α) (k : Nat) (v : α) : upd f k v k = v := by simp [upd]
theorem upd_other {α : Type} (f : Nat → α) {k j : Nat} (v : α) (h : j ≠ k) : upd f k v j = f j := by simp [upd, h]

def LocOk (C : Ctx) (l : Nat) : Loc → Prop
  | .var _ x => ∃ b cur T, C.blk l = some b ∧ C.w.heap[b]? = some (.cells cur T (0, 0)) ∧ V C x cur.toList
  | .rows _ sz xs => (C.blk l = none ∧ xs = []) ∨ ∃ b cur T cap, C.blk l = some b ∧ C.w.heap[b]? = some (.cells cur T (0, 0)) ∧ cur.size = cap * sz ∧ cap ≤ maxLen ∧
      xs.length ≤ cap ∧ Es C sz xs (cur.toList.take (xs.length * sz))

theorem LocOk.mono {C C' : Ctx} {l : Nat} {c : Loc} (h : LocOk C l c) (hle : C.Le C') (hb : C'.blk l = C.blk l) (hw : ∀ b, C.blk l = some b → C'.w.heap[b]? = C.w.heap[b]?) : LocOk C' l c := by
  cases c with
  | var g x =>
    obtain ⟨b, cur, T, h1, h2, h3⟩ := h
    exact ⟨b, cur, T, hb.trans h1, (hw b h1).trans h2, V_mono hle _ _ h3⟩
  | rows g sz xs =>
    rcases h with ⟨h1, h2⟩ | ⟨b, cur, T, cap, h1, h2, h3, h4, h5, h6⟩
    · exact .inl ⟨hb.trans h1, h2⟩
    · exact .inr ⟨b, cur, T, cap, hb.trans h1, (hw b h1).trans h2, h3, h4, h5, Es_mono hle _ _ _ h6⟩

structure WR (w0 : World) (Ws I0 : Nat → Prop) (C : Ctx) : Prop where
  locs : ∀ l c, C.m l = some c → LocOk C l c
  inj : ∀ l l' c c' b, C.m l = some c → C.m l' = some c' → C.blk l = some b → C.blk l' = some b → l = l'
  own : ∀ l c b, C.m l = some c → C.blk l = some b → b < C.w.heap.size ∧ ¬ C.I b ∧ (Ws b ∨ w0.heap.size ≤ b)
  imm : ∀ k, C.I k → k < C.w.heap.size ∧ (I0 k ∨ Ws k ∨ w0.heap.size ≤ k)
  imm0 : ∀ k, I0 k → C.I k
  gens : ∀ l c, C.m l = some c → C.used c.gen
  os : C.w.os = w0.os
  tape : C.w.tape = w0.tape
  output : C.w.output = w0.output
  size : w0.heap.size ≤ C.w.heap.size
  block : ∀ k, k < w0.heap.size → ¬ Ws k → C.w.heap[k]? = w0.heap[k]?

section
variable {w0 : World} {Ws I0 : Nat → Prop} {C : Ctx}

/-- Only the draw's count has moved, or blocks are new of which nothing is said. -/
theorem WR.world (h : WR w0 Ws I0 C) {w' : World} (hg : C.w.grownBy w' none) : C.Le { C with w := w' } ∧ WR w0 Ws I0 { C with w := w' } := by
  have hb : ∀ k, k < C.w.heap.size → w'.heap[k]? = C.w.heap[k]? := fun k hk => hg.block k hk (by simp)
  have hle : C.Le { C with w := w' } := by
    refine ⟨fun _ h => h, fun _ h => h, fun k hk => hb k (h.imm k hk).1, fun l c hc _ => ⟨c, hc, Loc.same_refl c, rfl, fun b hbl cur T hcur => ⟨cur, ?_, rfl⟩⟩⟩
    exact (hb b (h.own l c b hc hbl).1).trans hcur
  refine ⟨hle, ⟨fun l c hc => (h.locs l c hc).mono hle rfl (fun b hbl => hb b (h.own l c b hc hbl).1), h.inj, fun l c b hc hbl => ?_, fun k hk => ?_, h.imm0, h.gens,
    hg.os.trans h.os, hg.tape.trans h.tape, hg.output.trans h.output, Nat.le_trans h.size hg.size, fun k hk hn => (hb k (Nat.lt_of_lt_of_le hk h.size)).trans (h.block k hk hn)⟩⟩
  · obtain ⟨h1, h2, h3⟩ := h.own l c b hc hbl
    exact ⟨Nat.lt_of_lt_of_le h1 hg.size, h2, h3⟩
  · obtain ⟨h1, h2⟩ := h.imm k hk
    exact ⟨Nat.lt_of_lt_of_le h1 hg.size, h2⟩

/-- A location's content is turned, in its own block. -/
theorem WR.put (h : WR w0 Ws I0 C) {l b : Nat} {c c' : Loc} {w' : World} {cur cur' : Array Value} {T : TypeId} (hl : C.m l = some c) (hb : C.blk l = some b) (hcur : C.w.heap[b]? = some (.cells cur T (0, 0)))
    (hg : C.w.grownBy w' (some b)) (hcur' : w'.heap[b]? = some (.cells cur' T (0, 0))) (hsz : cur'.size = cur.size) (hs : Loc.same c c') :
    C.Le { C with w := w', m := upd C.m l (some c') } ∧ (LocOk { C with w := w', m := upd C.m l (some c') } l c' → WR w0 Ws I0 { C with w := w', m := upd C.m l (some c') }) := by
  have hk : ∀ k, k < C.w.heap.size → k ≠ b → w'.heap[k]? = C.w.heap[k]? := fun k hk hn => hg.block k hk (by simpa using hn)
  obtain ⟨hb1, hb2, hb3⟩ := h.own l c b hl hb
  have hle : C.Le { C with w := w', m := upd C.m l (some c') } := by
    refine ⟨fun _ h => h, fun _ h => h, fun k hi => hk k (h.imm k hi).1 (fun e => hb2 (e ▸ hi)), fun l' c'' hc _ => ?_⟩
    by_cases e : l' = l
    · subst e
      simp only [upd_same, Option.some.injEq] at hc
      subst hc
      refine ⟨c, hl, hs, rfl, fun b' hb' cur2 T2 h2 => ?_⟩
      rw [hb] at hb'
      obtain rfl := Option.some.inj hb'
      rw [hcur] at h2
      obtain ⟨rfl, rfl, _⟩ := (by simpa using h2 : cur = cur2 ∧ T = T2)
      exact ⟨cur', hcur', hsz⟩
    · simp only [upd_other _ _ e] at hc
      refine ⟨c'', hc, Loc.same_refl _, rfl, fun b' hb' cur2 T2 h2 => ⟨cur2, ?_, rfl⟩⟩
      refine (hk b' (h.own l' c'' b' hc hb').1 (fun e2 => e ?_)).trans h2
      subst e2
      exact h.inj l' l c'' c b' hc hl hb' hb
  refine ⟨hle, fun hok => ⟨fun l' c'' hc => ?_, fun l1 l2 c1 c2 b' h1 h2 h3 h4 => ?_, fun l' c'' b' hc hb' => ?_, fun k hi => ?_, h.imm0, fun l' c'' hc => ?_,
    hg.os.trans h.os, hg.tape.trans h.tape, hg.output.trans h.output, Nat.le_trans h.size hg.size, fun k hk' hn => ?_⟩⟩
  · by_cases e : l' = l
    · subst e
      simp only [upd_same, Option.some.injEq] at hc
      subst hc
      exact hok
    · simp only [upd_other _ _ e] at hc
      refine (h.locs l' c'' hc).mono hle rfl (fun b' hb' => hk b' (h.own l' c'' b' hc hb').1 (fun e2 => e ?_))
      subst e2
      exact h.inj l' l c'' c b' hc hl hb' hb
  · have g : ∀ l1 c1, upd C.m l (some c') l1 = some c1 → ∃ c1', C.m l1 = some c1' := by
      intro l1 c1 hx
      by_cases e : l1 = l
      · exact ⟨c, e ▸ hl⟩
      · exact ⟨c1, by simpa [upd_other _ _ e] using hx⟩
    obtain ⟨d1, e1⟩ := g l1 c1 h1
    obtain ⟨d2, e2⟩ := g l2 c2 h2
    exact h.inj l1 l2 d1 d2 b' e1 e2 h3 h4
  · have : ∃ d, C.m l' = some d := by
      by_cases e : l' = l
      · exact ⟨c, e ▸ hl⟩
      · exact ⟨c'', by simpa [upd_other _ _ e] using hc⟩
    obtain ⟨d, hd⟩ := this
    obtain ⟨h1, h2, h3⟩ := h.own l' d b' hd hb'
    exact ⟨Nat.lt_of_lt_of_le h1 hg.size, h2, h3⟩
  · obtain ⟨h1, h2⟩ := h.imm k hi
    exact ⟨Nat.lt_of_lt_of_le h1 hg.size, h2⟩
  · by_cases e : l' = l
    · subst e
      simp only [upd_same, Option.some.injEq] at hc
      subst hc
      rw [← Loc.same_gen hs]
      exact h.gens l' c hl
    · simp only [upd_other _ _ e] at hc
      exact h.gens l' c'' hc
  · rcases hb3 with hb3 | hb3
    · exact (hk k (Nat.lt_of_lt_of_le hk' h.size) (fun e => hn (e ▸ hb3))).trans (h.block k hk' hn)
    · exact (hk k (Nat.lt_of_lt_of_le hk' h.size) (fun e => by omega)).trans (h.block k hk' hn)

/-- A location is made, or made anew: in a new block, in the block that it had, or in none. -/
theorem WR.regen (h : WR w0 Ws I0 C) {l g : Nat} {c' : Loc} {w' : World} {row B : Option Nat} (hg : C.w.grownBy w' row) (hgen : c'.gen = g) (hnew : ¬ C.used g)
    (hrow : row = none ∨ ∃ c, C.m l = some c ∧ row = C.blk l)
    (hB : B = none ∨ (∃ c, C.m l = some c ∧ B = C.blk l) ∨ ∃ b, B = some b ∧ C.w.heap.size ≤ b ∧ b < w'.heap.size) :
    C.Le ⟨w', C.I, upd C.blk l B, upd C.m l (some c'), fun k => C.used k ∨ k = g⟩ ∧
      (LocOk ⟨w', C.I, upd C.blk l B, upd C.m l (some c'), fun k => C.used k ∨ k = g⟩ l c' → WR w0 Ws I0 ⟨w', C.I, upd C.blk l B, upd C.m l (some c'), fun k => C.used k ∨ k = g⟩) := by
  have hk : ∀ k, k < C.w.heap.size → (∀ c, C.m l = some c → C.blk l ≠ some k) → w'.heap[k]? = C.w.heap[k]? := by
    intro k hk hn
    refine hg.block k hk ?_
    rcases hrow with rfl | ⟨c, hc, rfl⟩
    · simp
    · exact fun e => hn c hc e.symm
  have hI : ∀ k, C.I k → w'.heap[k]? = C.w.heap[k]? := fun k hi => hk k (h.imm k hi).1 (fun c hc e => (h.own l c k hc e).2.1 hi)
  have hother : ∀ l' c'' b', l' ≠ l → C.m l' = some c'' → C.blk l' = some b' → w'.heap[b']? = C.w.heap[b']? := fun l' c'' b' e hc hb' =>
    hk b' (h.own l' c'' b' hc hb').1 (fun c hc2 e2 => e (h.inj l' l c'' c b' hc hc2 hb' e2))
  have hle : C.Le ⟨w', C.I, upd C.blk l B, upd C.m l (some c'), fun k => C.used k ∨ k = g⟩ := by
    refine ⟨fun _ h => .inl h, fun _ h => h, hI, fun l' c'' hc hu => ?_⟩
    by_cases e : l' = l
    · subst e
      simp only [upd_same, Option.some.injEq] at hc
      subst hc
      exact absurd (hgen ▸ hu) hnew
    · simp only [upd_other _ _ e] at hc ⊢
      exact ⟨c'', hc, Loc.same_refl _, trivial, fun b' hb' cur2 T2 h2 => ⟨cur2, (hother l' c'' b' e hc hb').trans h2, rfl⟩⟩
  have hown : ∀ b, B = some b → b < w'.heap.size ∧ ¬ C.I b ∧ (Ws b ∨ w0.heap.size ≤ b) := by
    intro b hb
    rcases hB with e | ⟨c, hc, e⟩ | ⟨b', e, h1, h2⟩
    · rw [e] at hb; cases hb
    · obtain ⟨h1, h2, h3⟩ := h.own l c b hc (by rw [← e]; exact hb)
      exact ⟨Nat.lt_of_lt_of_le h1 hg.size, h2, h3⟩
    · rw [e] at hb
      obtain rfl := Option.some.inj hb
      exact ⟨h2, fun hi => by have := (h.imm _ hi).1; omega, .inr (Nat.le_trans h.size h1)⟩
  have hne : ∀ l' c'' b, l' ≠ l → C.m l' = some c'' → C.blk l' = some b → B ≠ some b := by
    intro l' c'' b e hc hb hB'
    rcases hB with e1 | ⟨c, hc1, e1⟩ | ⟨b', e1, h1, _⟩
    · rw [e1] at hB'; cases hB'
    · exact e (h.inj l' l c'' c b hc hc1 hb (by rw [← e1]; exact hB'))
    · rw [e1] at hB'
      obtain rfl := Option.some.inj hB'
      have := (h.own l' c'' _ hc hb).1
      omega
  refine ⟨hle, fun hok => ⟨fun l' c'' hc => ?_, fun l1 l2 c1 c2 b' h1 h2 h3 h4 => ?_, fun l' c'' b' hc hb' => ?_, fun k hi => ?_, h.imm0, fun l' c'' hc => ?_,
    hg.os.trans h.os, hg.tape.trans h.tape, hg.output.trans h.output, Nat.le_trans h.size hg.size, fun k hk' hn => ?_⟩⟩
  · by_cases e : l' = l
    · subst e
      simp only [upd_same, Option.some.injEq] at hc
      subst hc
      exact hok
    · simp only [upd_other _ _ e] at hc
      exact (h.locs l' c'' hc).mono hle (by simp [upd_other _ _ e]) (fun b' hb' => hother l' c'' b' e hc hb')
  · by_cases e1 : l1 = l <;> by_cases e2 : l2 = l
    · exact e1.trans e2.symm
    · subst e1
      simp only [upd_same] at h3
      simp only [upd_other _ _ e2] at h2 h4
      exact absurd h3 (hne l2 c2 b' e2 h2 h4)
    · subst e2
      simp only [upd_same] at h4
      simp only [upd_other _ _ e1] at h1 h3
      exact absurd h4 (hne l1 c1 b' e1 h1 h3)
    · simp only [upd_other _ _ e1] at h1 h3
      simp only [upd_other _ _ e2] at h2 h4
      exact h.inj l1 l2 c1 c2 b' h1 h2 h3 h4
  · by_cases e : l' = l
    · subst e
      simp only [upd_same] at hb'
      exact hown b' hb'
    · simp only [upd_other _ _ e] at hc hb'
      obtain ⟨h1, h2, h3⟩ := h.own l' c'' b' hc hb'
      exact ⟨Nat.lt_of_lt_of_le h1 hg.size, h2, h3⟩
  · obtain ⟨h1, h2⟩ := h.imm k hi
    exact ⟨Nat.lt_of_lt_of_le h1 hg.size, h2⟩
  · by_cases e : l' = l
    · subst e
      simp only [upd_same, Option.some.injEq] at hc
      subst hc
      exact .inr hgen
    · simp only [upd_other _ _ e] at hc
      exact .inl (h.gens l' c'' hc)
  · refine (hk k (Nat.lt_of_lt_of_le hk' h.size) (fun c hc e => ?_)).trans (h.block k hk' hn)
    rcases (h.own l c k hc e).2.2 with h1 | h1
    · exact hn h1
    · omega

/-- A location is given up. -/
theorem WR.gone (h : WR w0 Ws I0 C) (l : Nat) : C.Le { C with m := upd C.m l none } ∧ WR w0 Ws I0 { C with m := upd C.m l none } := by
  have g : ∀ l' c, upd C.m l none l' = some c → C.m l' = some c := by
    intro l' c hc
    by_cases e : l' = l
    · subst e; simp at hc
    · simpa [upd_other _ _ e] using hc
  have hle : C.Le { C with m := upd C.m l none } :=
    ⟨fun _ h => h, fun _ h => h, fun _ _ => rfl, fun l' c hc _ => ⟨c, g l' c hc, Loc.same_refl c, rfl, fun _ _ cur _ hcur => ⟨cur, hcur, rfl⟩⟩⟩
  exact ⟨hle, fun l' c hc => (h.locs l' c (g l' c hc)).mono hle rfl (fun _ _ => rfl), fun l1 l2 c1 c2 b h1 h2 => h.inj l1 l2 c1 c2 b (g _ _ h1) (g _ _ h2),
    fun l' c b hc => h.own l' c b (g _ _ hc), h.imm, h.imm0, fun l' c hc => h.gens l' c (g _ _ hc), h.os, h.tape, h.output, h.size, h.block⟩

/-- Some locations are given up. -/
theorem WR.restrict (h : WR w0 Ws I0 C) {m' : Nat → Option Loc} (g : ∀ l c, m' l = some c → C.m l = some c) : C.Le { C with m := m' } ∧ WR w0 Ws I0 { C with m := m' } := by
  have hle : C.Le { C with m := m' } :=
    ⟨fun _ h => h, fun _ h => h, fun _ _ => rfl, fun l' c hc _ => ⟨c, g l' c hc, Loc.same_refl c, rfl, fun _ _ cur _ hcur => ⟨cur, hcur, rfl⟩⟩⟩
  exact ⟨hle, fun l' c hc => (h.locs l' c (g l' c hc)).mono hle rfl (fun _ _ => rfl), fun l1 l2 c1 c2 b h1 h2 => h.inj l1 l2 c1 c2 b (g _ _ h1) (g _ _ h2),
    fun l' c b hc => h.own l' c b (g _ _ hc), h.imm, h.imm0, fun l' c hc => h.gens l' c (g _ _ hc), h.os, h.tape, h.output, h.size, h.block⟩

/-- A row's block becomes one that stays as it is (the world may turn in it for the last time). -/
theorem WR.freezeW (h : WR w0 Ws I0 C) {l b : Nat} {c : Loc} {w' : World} (hl : C.m l = some c) (hb : C.blk l = some b) (hg : C.w.grownBy w' (some b)) :
    C.Le { C with w := w', I := fun k => C.I k ∨ k = b, m := upd C.m l none } ∧ WR w0 Ws I0 { C with w := w', I := fun k => C.I k ∨ k = b, m := upd C.m l none } := by
  have g : ∀ l' c, upd C.m l none l' = some c → C.m l' = some c ∧ l' ≠ l := by
    intro l' c hc
    by_cases e : l' = l
    · subst e; simp at hc
    · exact ⟨by simpa [upd_other _ _ e] using hc, e⟩
  obtain ⟨h1, h2, h3⟩ := h.own l c b hl hb
  have hk : ∀ k, k < C.w.heap.size → k ≠ b → w'.heap[k]? = C.w.heap[k]? := fun k hk hn => hg.block k hk (by simpa using hn)
  have hother : ∀ l' c' b', l' ≠ l → C.m l' = some c' → C.blk l' = some b' → w'.heap[b']? = C.w.heap[b']? := fun l' c' b' e hc hb' =>
    hk b' (h.own l' c' b' hc hb').1 (fun e2 => e (h.inj l' l c' c b' hc hl hb' (e2 ▸ hb)))
  have hle : C.Le { C with w := w', I := fun k => C.I k ∨ k = b, m := upd C.m l none } :=
    ⟨fun _ h => h, fun _ h => .inl h, fun k hi => hk k (h.imm k hi).1 (fun e => h2 (e ▸ hi)),
      fun l' c' hc _ => ⟨c', (g l' c' hc).1, Loc.same_refl c', rfl, fun b' hb' cur _ hcur => ⟨cur, (hother l' c' b' (g l' c' hc).2 (g l' c' hc).1 hb').trans hcur, rfl⟩⟩⟩
  refine ⟨hle, fun l' c' hc => (h.locs l' c' (g l' c' hc).1).mono hle rfl (fun b' hb' => hother l' c' b' (g l' c' hc).2 (g l' c' hc).1 hb'), fun l1 l2 c1 c2 b h1 h2 => h.inj l1 l2 c1 c2 b (g _ _ h1).1 (g _ _ h2).1,
    fun l' c' b' hc hb' => ?_, fun k hi => ?_, fun k hk => .inl (h.imm0 k hk), fun l' c hc => h.gens l' c (g _ _ hc).1, hg.os.trans h.os, hg.tape.trans h.tape, hg.output.trans h.output, Nat.le_trans h.size hg.size, fun k hk' hn => ?_⟩
  · obtain ⟨k1, k2, k3⟩ := h.own l' c' b' (g _ _ hc).1 hb'
    refine ⟨Nat.lt_of_lt_of_le k1 hg.size, fun hk => ?_, k3⟩
    rcases hk with hk | rfl
    · exact k2 hk
    · exact (g _ _ hc).2 (h.inj l' l c' c _ (g _ _ hc).1 hl hb' hb)
  · rcases hi with hi | rfl
    · exact ⟨Nat.lt_of_lt_of_le (h.imm k hi).1 hg.size, (h.imm k hi).2⟩
    · exact ⟨Nat.lt_of_lt_of_le h1 hg.size, .inr h3⟩
  · refine (hk k (Nat.lt_of_lt_of_le hk' h.size) (fun e => ?_)).trans (h.block k hk' hn)
    subst e
    rcases h3 with h3 | h3
    · exact hn h3
    · omega

theorem World.grownBy_self (w : World) (row : Option Nat) : w.grownBy w row := ⟨rfl, rfl, rfl, Nat.le_refl _, fun _ _ _ => rfl⟩

/-- A row's block becomes one that stays as it is. -/
theorem WR.freeze (h : WR w0 Ws I0 C) {l b : Nat} {c : Loc} (hl : C.m l = some c) (hb : C.blk l = some b) :
    C.Le { C with I := fun k => C.I k ∨ k = b, m := upd C.m l none } ∧ WR w0 Ws I0 { C with I := fun k => C.I k ∨ k = b, m := upd C.m l none } :=
  h.freezeW hl hb (World.grownBy_self C.w _)

/-- A new block that stays as it is. -/
theorem WR.newI (h : WR w0 Ws I0 C) {w' : World} (hg : C.w.grownBy w' none) {b : Nat} (h1 : C.w.heap.size ≤ b) (h2 : b < w'.heap.size) :
    C.Le { C with w := w', I := fun k => C.I k ∨ k = b } ∧ WR w0 Ws I0 { C with w := w', I := fun k => C.I k ∨ k = b } := by
  obtain ⟨hle, hw⟩ := h.world hg
  have hle2 : Ctx.Le { C with w := w' } { C with w := w', I := fun k => C.I k ∨ k = b } :=
    ⟨fun _ h => h, fun _ h => .inl h, fun _ _ => rfl, fun l c hc _ => ⟨c, hc, Loc.same_refl c, rfl, fun _ _ cur _ hcur => ⟨cur, hcur, rfl⟩⟩⟩
  refine ⟨hle.trans hle2, ⟨fun l c hc => (hw.locs l c hc).mono hle2 rfl (fun _ _ => rfl), h.inj, fun l c b' hc hb' => ?_, fun k hk => ?_, fun k hk => .inl (h.imm0 k hk), h.gens,
    hw.os, hw.tape, hw.output, hw.size, hw.block⟩⟩
  · obtain ⟨k1, k2, k3⟩ := hw.own l c b' hc hb'
    refine ⟨k1, fun hk => ?_, k3⟩
    rcases hk with hk | rfl
    · exact k2 hk
    · have := (h.own l c _ hc hb').1; omega
  · rcases hk with hk | rfl
    · exact hw.imm k hk
    · exact ⟨h2, .inr (.inr (Nat.le_trans h.size h1))⟩
end

end Go.Proofs.YtngemgmnpcaamaaDoor.WL
