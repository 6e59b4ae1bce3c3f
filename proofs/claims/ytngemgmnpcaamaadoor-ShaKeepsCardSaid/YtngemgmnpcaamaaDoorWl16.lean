/-
  CALLS, first part: values that hold no reference of the caller's own; what a call is given and what it leaves.
-/
import Derived.Test.YtngemgmnpcaamaaDoorWl15
namespace Go.Proofs.YtngemgmnpcaamaaDoor.WL
open Go

mutual
/-- Nothing of memory at all. -/
def plain : AV → Bool
  | .top => true
  | .v _ => true
  | .node cs => plains cs
  | .arr _ xs => plains xs
  | _ => false
def plains : List AV → Bool
  | [] => true
  | a :: as => plain a && plains as
end

mutual
theorem V_shift {C C' : Ctx} (hI : ∀ k, C.I k → C'.I k ∧ C'.w.heap[k]? = C.w.heap[k]?) : ∀ (a : AV) (cs : List Value), closed a = true → V C a cs → V C' a cs
  | .top, _, _, k => by simpa [V] using k
  | .v x, _, _, k => by simpa [V] using k
  | .node as, cs, h, k => by simp only [closed] at h; simp only [V] at *; exact Vs_shift hI as cs h k
  | .arr sz xs, cs, h, k => by simp only [closed] at h; simp only [V] at *; exact Es_shift hI sz xs cs h k
  | .sl sz xs, cs, h, k => by
    simp only [closed] at h
    simp only [V] at *
    obtain ⟨a, cap, body, e, h1, h2, h3, h4⟩ := k
    refine ⟨a, cap, body, e, h1, h2, Es_shift hI sz xs body h h3, h4.imp id ?_⟩
    rintro ⟨b, o, h5, h6, h7⟩
    exact ⟨b, o, h5, (hI b h6).1, h7.mono (hI b h6).2⟩
  | .iptr x, cs, h, k => by
    simp only [closed] at h
    simp only [V] at *
    obtain ⟨b, o, body, e, h1, h2, h3⟩ := k
    exact ⟨b, o, body, e, (hI b h1).1, V_shift hI x body h h2, h3.mono (hI b h1).2⟩
  | .ptr .., _, h, _ => by simp [closed] at h
  | .row .., _, h, _ => by simp [closed] at h
  | .vrow .., _, h, _ => by simp [closed] at h
  | .rptr .., _, h, _ => by simp [closed] at h
  | .tup _, _, h, _ => by simp [closed] at h
theorem Vs_shift {C C' : Ctx} (hI : ∀ k, C.I k → C'.I k ∧ C'.w.heap[k]? = C.w.heap[k]?) : ∀ (as : List AV) (cs : List Value), closeds as = true → Vs C as cs → Vs C' as cs
  | [], _, _, k => by simpa [Vs] using k
  | a :: as, cs, h, k => by
    simp only [closeds, Bool.and_eq_true] at h
    simp only [Vs] at *
    obtain ⟨c1, c2, e, h1, h2⟩ := k
    exact ⟨c1, c2, e, V_shift hI a c1 h.1 h1, Vs_shift hI as c2 h.2 h2⟩
theorem Es_shift {C C' : Ctx} (hI : ∀ k, C.I k → C'.I k ∧ C'.w.heap[k]? = C.w.heap[k]?) (sz : Nat) : ∀ (as : List AV) (cs : List Value), closeds as = true → Es C sz as cs → Es C' sz as cs
  | [], _, _, k => by simpa [Es] using k
  | a :: as, cs, h, k => by
    simp only [closeds, Bool.and_eq_true] at h
    simp only [Es] at *
    obtain ⟨c1, c2, e, hl, h1, h2⟩ := k
    exact ⟨c1, c2, e, hl, V_shift hI a c1 h.1 h1, Es_shift hI sz as c2 h.2 h2⟩
end

mutual
theorem V_plain {C C' : Ctx} : ∀ (a : AV) (cs : List Value), plain a = true → V C a cs → V C' a cs
  | .top, _, _, k => by simpa [V] using k
  | .v x, _, _, k => by simpa [V] using k
  | .node as, cs, h, k => by simp only [plain] at h; simp only [V] at *; exact Vs_plain as cs h k
  | .arr sz xs, cs, h, k => by simp only [plain] at h; simp only [V] at *; exact Es_plain sz xs cs h k
  | .sl .., _, h, _ => by simp [plain] at h
  | .iptr _, _, h, _ => by simp [plain] at h
  | .ptr .., _, h, _ => by simp [plain] at h
  | .row .., _, h, _ => by simp [plain] at h
  | .vrow .., _, h, _ => by simp [plain] at h
  | .rptr .., _, h, _ => by simp [plain] at h
  | .tup _, _, h, _ => by simp [plain] at h
theorem Vs_plain {C C' : Ctx} : ∀ (as : List AV) (cs : List Value), plains as = true → Vs C as cs → Vs C' as cs
  | [], _, _, k => by simpa [Vs] using k
  | a :: as, cs, h, k => by
    simp only [plains, Bool.and_eq_true] at h
    simp only [Vs] at *
    obtain ⟨c1, c2, e, h1, h2⟩ := k
    exact ⟨c1, c2, e, V_plain a c1 h.1 h1, Vs_plain as c2 h.2 h2⟩
theorem Es_plain {C C' : Ctx} (sz : Nat) : ∀ (as : List AV) (cs : List Value), plains as = true → Es C sz as cs → Es C' sz as cs
  | [], _, _, k => by simpa [Es] using k
  | a :: as, cs, h, k => by
    simp only [plains, Bool.and_eq_true] at h
    simp only [Es] at *
    obtain ⟨c1, c2, e, hl, h1, h2⟩ := k
    exact ⟨c1, c2, e, hl, V_plain a c1 h.1 h1, Es_plain sz as c2 h.2 h2⟩
end

mutual
theorem plain_closed : ∀ (a : AV), plain a = true → closed a = true
  | .top, _ => rfl
  | .v _, _ => rfl
  | .node as, h => by simp only [plain] at h; simp only [closed]; exact plains_closed as h
  | .arr _ as, h => by simp only [plain] at h; simp only [closed]; exact plains_closed as h
  | .sl .., h => by simp [plain] at h
  | .iptr _, h => by simp [plain] at h
  | .ptr .., h => by simp [plain] at h
  | .row .., h => by simp [plain] at h
  | .vrow .., h => by simp [plain] at h
  | .rptr .., h => by simp [plain] at h
  | .tup _, h => by simp [plain] at h
theorem plains_closed : ∀ (as : List AV), plains as = true → closeds as = true
  | [], _ => rfl
  | a :: as, h => by
    simp only [plains, Bool.and_eq_true] at h
    simp only [closeds, Bool.and_eq_true]
    exact ⟨plain_closed a h.1, plains_closed as h.2⟩
end

/-! Lists of values that are alike. -/
theorem closeds_all {as : List AV} : closeds as = true ↔ ∀ a ∈ as, closed a = true := by
  induction as with
  | nil => simp [closeds]
  | cons a as ih => simp [closeds, ih]
theorem plains_all {as : List AV} : plains as = true ↔ ∀ a ∈ as, plain a = true := by
  induction as with
  | nil => simp [plains]
  | cons a as ih => simp [plains, ih]

/-! Association lists. -/
def look {α : Type} : List (Nat × α) → Nat → Option α
  | [], _ => none
  | (k, v) :: r, j => if k = j then some v else look r j

theorem look_mem {α : Type} {l : List (Nat × α)} {k : Nat} {v : α} (h : look l k = some v) : (k, v) ∈ l := by
  induction l with
  | nil => simp [look] at h
  | cons p l ih =>
    obtain ⟨k', v'⟩ := p
    simp only [look] at h
    split at h
    · rename_i e; subst e; obtain rfl := Option.some.inj h; exact List.mem_cons_self
    · exact List.mem_cons_of_mem _ (ih h)

theorem look_of_mem {α : Type} {l : List (Nat × α)} {k : Nat} {v : α} (hn : (l.map (·.1)).Nodup) (h : (k, v) ∈ l) : look l k = some v := by
  induction l with
  | nil => cases h
  | cons p l ih =>
    obtain ⟨k', v'⟩ := p
    simp only [List.map_cons, List.nodup_cons] at hn
    simp only [look]
    rcases List.mem_cons.1 h with e | h
    · obtain ⟨rfl, rfl⟩ := (by simpa using e : k = k' ∧ v = v'); simp
    · rw [if_neg, ih hn.2 h]
      rintro rfl
      exact hn.1 (List.mem_map_of_mem (f := (·.1)) h)

theorem look_none {α : Type} {l : List (Nat × α)} {k : Nat} (h : k ∉ l.map (·.1)) : look l k = none := by
  induction l with
  | nil => rfl
  | cons p l ih =>
    obtain ⟨k', v'⟩ := p
    simp only [List.map_cons, List.mem_cons, not_or] at h
    simp only [look]
    rw [if_neg (fun e => h.1 e.symm), ih h.2]

/-! Fitting: a value, seen with other names of its locations; what is lent is seen as a slice that stays. -/

mutual
/-- 'raw' (names of m) is 'want' (new names): L says which name and stamp a new name has in m; none: an empty row. -/
def Fit (m : Nat → Option Loc) (L : List (Nat × Option (Nat × Nat))) : AV → AV → Prop
  | raw, .sl sz ws => match raw with
    | .sl s xs => s = sz ∧ xs = ws ∧ closeds ws = true
    | .row l s g off n => s = sz ∧ ∃ xs, m l = some (.rows g sz xs) ∧ off + n ≤ xs.length ∧ FitL m L ((xs.drop off).take n) ws
    | .vrow l g off s n _ => s = sz ∧ ∃ y xs, m l = some (.var g y) ∧ elemsAt sz y off = some xs ∧ n ≤ xs.length ∧ FitL m L (xs.take n) ws
    | .v (.slice none 0 0) => ws = []
    | _ => False
  | raw, .ptr k _ off => match raw with
    | .ptr l g off' => off' = off ∧ look L k = some (some (l, g))
    | _ => False
  | raw, .row k sz _ off n => match raw with
    | .row l s g off' n' => s = sz ∧ off' = off ∧ n' = n ∧ look L k = some (some (l, g))
    | .v (.slice none 0 0) => off = 0 ∧ n = 0 ∧ look L k = some none
    | _ => False
  | raw, .node ws => match raw with
    | .node rs => FitL m L rs ws
    | _ => False
  | raw, .arr sz ws => match raw with
    | .arr s rs => s = sz ∧ FitL m L rs ws
    | _ => False
  | raw, .vrow .. => False
  | raw, .rptr .. => False
  | raw, .tup _ => False
  | raw, .top => raw = .top
  | raw, .v x => raw = .v x
  | raw, .iptr x => raw = .iptr x ∧ closed x = true
def FitL (m : Nat → Option Loc) (L : List (Nat × Option (Nat × Nat))) : List AV → List AV → Prop
  | rs, [] => rs = []
  | rs, w :: ws => ∃ r rs', rs = r :: rs' ∧ Fit m L r w ∧ FitL m L rs' ws
end

mutual
/-- The locations that are lent. -/
def touch (m : Nat → Option Loc) : AV → AV → List Nat
  | raw, .sl _ ws => match raw with
    | .row l _ _ off n => l :: (match m l with | some (.rows _ _ xs) => touchL m ((xs.drop off).take n) ws | _ => [])
    | .vrow l _ off s n _ => l :: (match m l with | some (.var _ y) => (match elemsAt s y off with | some xs => touchL m (xs.take n) ws | none => []) | _ => [])
    | _ => []
  | raw, .node ws => match raw with
    | .node rs => touchL m rs ws
    | _ => []
  | raw, .arr _ ws => match raw with
    | .arr _ rs => touchL m rs ws
    | _ => []
  | _, _ => []
def touchL (m : Nat → Option Loc) : List AV → List AV → List Nat
  | r :: rs, w :: ws => touch m r w ++ touchL m rs ws
  | _, _ => []
end

mutual
theorem Fit_refl {m : Nat → Option Loc} {L : List (Nat × Option (Nat × Nat))} : ∀ (a : AV), closed a = true → Fit m L a a ∧ touch m a a = []
  | .top, _ => by simp [Fit, touch]
  | .v x, _ => by simp [Fit, touch]
  | .node cs, h => by simp only [closed] at h; simp only [Fit, touch]; exact FitL_refl cs h
  | .arr sz xs, h => by simp only [closed] at h; simp only [Fit, touch]; have := FitL_refl (m := m) (L := L) xs h; exact ⟨⟨trivial, this.1⟩, this.2⟩
  | .sl sz xs, h => by simp only [closed] at h; simp [Fit, touch, h]
  | .iptr x, h => by simp only [closed] at h; simp [Fit, touch, h]
  | .ptr .., h => by simp [closed] at h
  | .row .., h => by simp [closed] at h
  | .vrow .., h => by simp [closed] at h
  | .rptr .., h => by simp [closed] at h
  | .tup _, h => by simp [closed] at h
theorem FitL_refl {m : Nat → Option Loc} {L : List (Nat × Option (Nat × Nat))} : ∀ (as : List AV), closeds as = true → FitL m L as as ∧ touchL m as as = []
  | [], _ => by simp [FitL, touchL]
  | a :: as, h => by
    simp only [closeds, Bool.and_eq_true] at h
    have h1 := Fit_refl (m := m) (L := L) a h.1
    have h2 := FitL_refl (m := m) (L := L) as h.2
    simp only [FitL, touchL]
    exact ⟨⟨a, as, rfl, h1.1, h2.1⟩, by simp [h1.2, h2.2]⟩
end

theorem FitL_length {m : Nat → Option Loc} {L : List (Nat × Option (Nat × Nat))} : ∀ {rs ws : List AV}, FitL m L rs ws → rs.length = ws.length
  | rs, [], h => by simp only [FitL] at h; simp [h]
  | rs, w :: ws, h => by
    simp only [FitL] at h
    obtain ⟨r, rs', rfl, _, h2⟩ := h
    simp [FitL_length h2]

/-- How the two contexts hang together. -/
structure Seen (C C' : Ctx) (L : List (Nat × Option (Nat × Nat))) (T : List Nat) : Prop where
  w : C'.w = C.w
  I : ∀ k, C.I k → C'.I k
  lent : ∀ t ∈ T, ∀ c b, C.m t = some c → C.blk t = some b → C'.I b
  loc : ∀ k l g, look L k = some (some (l, g)) → ∀ c', C'.m k = some c' → ∃ c, C.m l = some c ∧ c.gen = g ∧ C'.blk k = C.blk l ∧
    (match c, c' with | .var _ _, .var _ _ => True | .rows _ sz _, .rows _ sz' _ => sz = sz' | _, _ => False)
  nil : ∀ k, look L k = some none → ∀ c', C'.m k = some c' → C'.blk k = none

mutual
/-- All stamps of references in a value are in use (references lie in fields and arrays only). -/
def Stamped (U : Nat → Prop) : AV → Prop
  | .ptr _ g _ => U g
  | .row _ _ g _ _ => U g
  | .node cs => StampedL U cs
  | .arr _ cs => StampedL U cs
  | .sl _ cs => StampedL U cs
  | .tup cs => StampedL U cs
  | _ => True
def StampedL (U : Nat → Prop) : List AV → Prop
  | [] => True
  | a :: as => Stamped U a ∧ StampedL U as
end

mutual
theorem stamped_mono {U U' : Nat → Prop} (h : ∀ g, U g → U' g) : ∀ (a : AV), Stamped U a → Stamped U' a
  | .ptr _ g _, k => by simp only [Stamped] at *; exact h g k
  | .row _ _ g _ _, k => by simp only [Stamped] at *; exact h g k
  | .node cs, k => by simp only [Stamped] at *; exact stampedL_mono h cs k
  | .arr _ cs, k => by simp only [Stamped] at *; exact stampedL_mono h cs k
  | .sl _ cs, k => by simp only [Stamped] at *; exact stampedL_mono h cs k
  | .tup cs, k => by simp only [Stamped] at *; exact stampedL_mono h cs k
  | .top, _ => by simp [Stamped]
  | .v _, _ => by simp [Stamped]
  | .vrow .., _ => by simp [Stamped]
  | .iptr _, _ => by simp [Stamped]
  | .rptr .., _ => by simp [Stamped]
theorem stampedL_mono {U U' : Nat → Prop} (h : ∀ g, U g → U' g) : ∀ (as : List AV), StampedL U as → StampedL U' as
  | [], _ => by simp [StampedL]
  | a :: as, k => by simp only [StampedL] at *; exact ⟨stamped_mono h a k.1, stampedL_mono h as k.2⟩
end

mutual
theorem closed_stamped {U : Nat → Prop} : ∀ (a : AV), closed a = true → Stamped U a
  | .top, _ => by simp [Stamped]
  | .v _, _ => by simp [Stamped]
  | .iptr _, _ => by simp [Stamped]
  | .node cs, h => by simp only [closed] at h; simp only [Stamped]; exact closeds_stamped cs h
  | .arr _ cs, h => by simp only [closed] at h; simp only [Stamped]; exact closeds_stamped cs h
  | .sl _ cs, h => by simp only [closed] at h; simp only [Stamped]; exact closeds_stamped cs h
  | .ptr .., h => by simp [closed] at h
  | .row .., h => by simp [closed] at h
  | .vrow .., h => by simp [closed] at h
  | .rptr .., h => by simp [closed] at h
  | .tup _, h => by simp [closed] at h
theorem closeds_stamped {U : Nat → Prop} : ∀ (as : List AV), closeds as = true → StampedL U as
  | [], _ => by simp [StampedL]
  | a :: as, h => by
    simp only [closeds, Bool.and_eq_true] at h
    simp only [StampedL]
    exact ⟨closed_stamped a h.1, closeds_stamped as h.2⟩
end

section
variable {w0 : World} {Ws I0 : Nat → Prop} {C C' : Ctx} {L : List (Nat × Option (Nat × Nat))} {T : List Nat}

theorem V_lent (hw : WR w0 Ws I0 C) (hs : Seen C C' L T) {sz l : Nat} {raw : AV} {xs ws : List AV} {cs : List Value} (hsrc : srcA C.m sz raw = some xs) (ho : raw.solid = true) (ha : raw.isAgg = false) (hr : refOf raw = some l) (hT : l ∈ T)
    (k : V C raw cs) (hlen : xs.length = ws.length) (hE : ∀ news, Es C sz xs news → Es C' sz ws news) : V C' (.sl sz ws) cs := by
  have h1 : raw.size = 1 := by cases raw <;> first | rfl | (simp [AV.isAgg] at ha)
  have hl := V_size _ _ k
  rw [h1] at hl
  obtain ⟨x, rfl⟩ := List.length_eq_one_iff.1 hl
  obtain ⟨ao, cap, news, e, h1, h2, h3, h4⟩ := src_ok hw (SV_one k ha) hsrc
  subst e
  simp only [V]
  refine ⟨ao, cap, news, by rw [hlen], by omega, h2, hE news h3, ?_⟩
  rcases h4 with h4 | ⟨b, o, e1, h5, h6⟩
  · left; rw [h4] at hlen; exact List.eq_nil_of_length_eq_zero (by simpa using hlen.symm)
  · right
    refine ⟨b, o, e1, ?_, by rw [hs.w]; exact h5⟩
    rcases h6 with h6 | ⟨l2, c2, e2, h7, h8⟩
    · exact hs.I b h6
    · rw [hr] at e2
      obtain rfl := Option.some.inj e2
      exact hs.lent _ hT c2 b h7 h8

mutual
theorem V_fit (hw : WR w0 Ws I0 C) (hs : Seen C C' L T) : ∀ (want raw : AV) (cs : List Value), Fit C.m L raw want → (∀ l ∈ touch C.m raw want, l ∈ T) → Stamped C'.used want → V C raw cs → V C' want cs
  | .top, raw, cs, h, _, _, k => by simp only [Fit] at h; subst h; simpa [V] using k
  | .v x, raw, cs, h, _, _, k => by simp only [Fit] at h; subst h; simpa [V] using k
  | .iptr x, raw, cs, h, _, _, k => by
    simp only [Fit] at h
    obtain ⟨rfl, h1⟩ := h
    exact V_shift (fun j hj => ⟨hs.I j hj, by rw [hs.w]⟩) (.iptr x) cs (by simpa [closed] using h1) k
  | .vrow .., raw, cs, h, _, _, k => by simp [Fit] at h
  | .rptr .., raw, cs, h, _, _, k => by simp [Fit] at h
  | .tup _, raw, cs, h, _, _, k => by simp [Fit] at h
  | .ptr l' g' off, raw, cs, h, _ht, hst, k => by
    simp only [Fit] at h
    split at h <;> first | (cases h; done) | skip
    rename_i l g off'
    obtain ⟨rfl, hL⟩ := h
    simp only [V, Stamped] at *
    obtain ⟨a, e, _, k⟩ := k
    refine ⟨a, e, hst, fun y hm => ?_⟩
    obtain ⟨c, h1, h2, h3, h4⟩ := hs.loc l' l g hL _ hm
    cases c with
    | var g1 y1 => simp only [Loc.gen] at h2; subst h2; rw [h3]; exact k _ h1
    | rows g1 sz xs => simp at h4
  | .row l' sz g' off n, raw, cs, h, _ht, hst, k => by
    simp only [Fit] at h
    split at h
    · rename_i l s g off' n'
      obtain ⟨rfl, rfl, rfl, hL⟩ := h
      simp only [V, Stamped] at *
      obtain ⟨ao, cap, e, hn, hm, hso, _, k⟩ := k
      refine ⟨ao, cap, e, hn, hm, hso, hst, fun xs hm' => ?_⟩
      obtain ⟨c, h1, h2, h3, h4⟩ := hs.loc l' l g hL _ hm'
      cases c with
      | var g1 y1 => simp at h4
      | rows g1 sz1 xs1 =>
        simp only [Loc.gen] at h2
        simp only at h4
        subst h2 h4
        have := k _ h1
        unfold RowVal at *
        rw [h3, hs.w]
        exact this
    · obtain ⟨rfl, rfl, hL⟩ := h
      simp only [V, Stamped] at *
      obtain ⟨rfl, _⟩ := k
      refine ⟨none, 0, rfl, Nat.le_refl _, by simp [maxLen], fun h => by simp at h, hst, fun xs hm' => ?_⟩
      unfold RowVal
      rw [hs.nil l' hL _ hm']
      exact ⟨rfl, rfl, none, rfl⟩
    · cases h
  | .node ws, raw, cs, h, ht, hst, k => by
    simp only [Fit] at h
    split at h <;> first | (cases h; done) | skip
    simp only [V, Stamped, touch] at *
    exact Vs_fit hw hs ws _ cs h ht hst k
  | .arr sz ws, raw, cs, h, ht, hst, k => by
    simp only [Fit] at h
    split at h <;> first | (cases h; done) | skip
    obtain ⟨rfl, h⟩ := h
    simp only [V, Stamped, touch] at *
    exact Es_fit hw hs _ ws _ cs h ht hst k
  | .sl sz ws, raw, cs, h, ht, hst, k => by
    simp only [Fit] at h
    split at h
    · obtain ⟨rfl, rfl, hc⟩ := h
      exact V_shift (fun j hj => ⟨hs.I j hj, by rw [hs.w]⟩) _ cs (by simpa [closed] using hc) k
    · rename_i l s g off n
      obtain ⟨rfl, xs, hm, hfit, hL⟩ := h
      simp only [touch, hm] at ht
      simp only [Stamped] at hst
      exact V_lent hw hs (by simp [srcA, hm, hfit]) rfl rfl rfl (ht l List.mem_cons_self) k (FitL_length hL) (fun news h3 => Es_fit hw hs s ws _ news hL (fun t htt => ht t (List.mem_cons_of_mem _ htt)) hst h3)
    · rename_i l g off s n cap
      obtain ⟨rfl, y, xs, hm, he, hn, hL⟩ := h
      simp only [touch, hm, he] at ht
      simp only [Stamped] at hst
      exact V_lent hw hs (by simp [srcA, hm, he, hn]) rfl rfl rfl (ht l List.mem_cons_self) k (FitL_length hL) (fun news h3 => Es_fit hw hs s ws _ news hL (fun t htt => ht t (List.mem_cons_of_mem _ htt)) hst h3)
    · subst h
      simp only [V] at *
      obtain ⟨rfl, _⟩ := k
      exact ⟨none, 0, [], rfl, Nat.le_refl _, by simp [maxLen], by simp [Es], .inl trivial⟩
    · cases h
theorem Vs_fit (hw : WR w0 Ws I0 C) (hs : Seen C C' L T) : ∀ (ws rs : List AV) (cs : List Value), FitL C.m L rs ws → (∀ l ∈ touchL C.m rs ws, l ∈ T) → StampedL C'.used ws → Vs C rs cs → Vs C' ws cs
  | [], rs, cs, h, _, _, k => by simp only [FitL] at h; subst h; simpa [Vs] using k
  | w :: ws, rs, cs, h, ht, hst, k => by
    simp only [FitL] at h
    obtain ⟨r, rs', rfl, h1, h2⟩ := h
    simp only [Vs, StampedL, touchL] at *
    obtain ⟨c1, c2, e, k1, k2⟩ := k
    exact ⟨c1, c2, e, V_fit hw hs w r c1 h1 (fun t htt => ht t (List.mem_append_left _ htt)) hst.1 k1, Vs_fit hw hs ws rs' c2 h2 (fun t htt => ht t (List.mem_append_right _ htt)) hst.2 k2⟩
theorem Es_fit (hw : WR w0 Ws I0 C) (hs : Seen C C' L T) (sz : Nat) : ∀ (ws rs : List AV) (cs : List Value), FitL C.m L rs ws → (∀ l ∈ touchL C.m rs ws, l ∈ T) → StampedL C'.used ws → Es C sz rs cs → Es C' sz ws cs
  | [], rs, cs, h, _, _, k => by simp only [FitL] at h; subst h; simpa [Es] using k
  | w :: ws, rs, cs, h, ht, hst, k => by
    simp only [FitL] at h
    obtain ⟨r, rs', rfl, h1, h2⟩ := h
    simp only [Es, StampedL, touchL] at *
    obtain ⟨c1, c2, e, hl, k1, k2⟩ := k
    exact ⟨c1, c2, e, hl, V_fit hw hs w r c1 h1 (fun t htt => ht t (List.mem_append_left _ htt)) hst.1 k1, Es_fit hw hs sz ws rs' c2 h2 (fun t htt => ht t (List.mem_append_right _ htt)) hst.2 k2⟩
end
end
end Go.Proofs.YtngemgmnpcaamaaDoor.WL
