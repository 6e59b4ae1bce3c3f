/-
  CALLS, third part: the contract, and what a call does to the caller's memory.
-/
import Derived.Test.YtngemgmnpcaamaaDoorWl17
namespace Go.Proofs.YtngemgmnpcaamaaDoor.WL
open Go

mutual
/-- A value whose references lead into this memory; with 'keep': that looks at no other memory. -/
def goodA (keep : Bool) (M : List (Nat × Loc)) : AV → Bool
  | .ptr l g _ => match look M l with
    | some (.var g' _) => g == g'
    | _ => false
  | .row l sz g _ _ => match look M l with
    | some (.rows g' s _) => g == g' && s == sz
    | _ => false
  | .node cs => goods keep M cs
  | .tup cs => goods keep M cs
  | a => if keep = true then plain a else closed a
def goods (keep : Bool) (M : List (Nat × Loc)) : List AV → Bool
  | [] => true
  | a :: as => goodA keep M a && goods keep M as
end

def goodE (keep : Bool) (M : List (Nat × Loc)) : Loc → Bool
  | .var g c => (g == 0 || g == 1) && goodA keep M c
  | .rows g _ xs => g == 1 && (if keep = true then plains xs else closeds xs)

def goodM (keep : Bool) (M : List (Nat × Loc)) : List (Nat × Loc) → Bool
  | [] => true
  | e :: r => goodE keep M e.2 && goodM keep M r

theorem goodM_mem {keep : Bool} {M : List (Nat × Loc)} : ∀ {r : List (Nat × Loc)} {e : Nat × Loc}, goodM keep M r = true → e ∈ r → goodE keep M e.2 = true
  | [], _, _, h => by cases h
  | x :: r, e, h, hm => by
    simp only [goodM, Bool.and_eq_true] at h
    rcases List.mem_cons.1 hm with rfl | hm
    · exact h.1
    · exact goodM_mem h.2 hm

/-- THE CONTRACT of a function: of these arguments, in this memory (all stamps 0), it answers this, and leaves that memory
(old variables have stamp 0, all else has stamp 1). 'keep': nothing that it leaves looks into what it was lent. -/
def Meets (P : Program) (G : Nat → Option AV) (f : Nat) (args : List AV) (M : List (Nat × Loc)) (keep : Bool) (res : AV) (M' : List (Nat × Loc)) : Prop :=
  (goodM keep M' M' = true ∧ goodA keep M' res = true ∧ (M'.map (·.1)).Nodup) ∧
  ∀ (C : Ctx) (Ws : Nat → Prop) (ys : List Value), WR C.w Ws C.I C → C.m = look M → (∀ g, C.used g ↔ g = 0) → GR C G → SVl C args ys →
    Calls P f ys.toArray C.w fun e w' => ∃ y C', e = .returned y ∧ C'.w = w' ∧ C.Le C' ∧ WR C.w Ws C.I C' ∧ C'.m = look M' ∧ SV C' res y

/-- The caller's name and stamp for a name and stamp of the callee's. -/
def kap (L : Names) (nb gn : Nat) (k g : Nat) : Nat × Nat :=
  if g = 0 then (match look L k with | some (some q) => q | _ => (nb + k, gn)) else (nb + k, gn)

mutual
def renA (L : Names) (nb gn : Nat) : AV → AV
  | .ptr l g off => .ptr (kap L nb gn l g).1 (kap L nb gn l g).2 off
  | .row l sz g off n => .row (kap L nb gn l g).1 sz (kap L nb gn l g).2 off n
  | .node cs => .node (rens L nb gn cs)
  | .tup cs => .tup (rens L nb gn cs)
  | a => a
def rens (L : Names) (nb gn : Nat) : List AV → List AV
  | [] => []
  | a :: as => renA L nb gn a :: rens L nb gn as
end

def renLoc (L : Names) (nb gn k : Nat) : Loc → Loc
  | .var g c => .var (kap L nb gn k g).2 (renA L nb gn c)
  | .rows g sz xs => .rows (kap L nb gn k g).2 sz xs

def renM (L : Names) (nb gn : Nat) (M : List (Nat × Loc)) : List (Nat × Loc) := M.map fun e => ((kap L nb gn e.1 e.2.gen).1, renLoc L nb gn e.1 e.2)

theorem renLoc_gen {L : Names} {nb gn k : Nat} (c : Loc) : (renLoc L nb gn k c).gen = (kap L nb gn k c.gen).2 := by cases c <;> rfl

/-- The callee's memory under the caller's names. -/
structure Back (C1 C' : Ctx) (L : Names) (nb gn : Nat) (keep : Bool) (M : List (Nat × Loc)) : Prop where
  w : C'.w = C1.w
  I : keep = true ∨ ∀ k, C1.I k → C'.I k
  m : C1.m = look M
  at_ : ∀ k c, look M k = some c → C'.m (kap L nb gn k c.gen).1 = some (renLoc L nb gn k c) ∧ C'.blk (kap L nb gn k c.gen).1 = C1.blk k ∧ C'.used (kap L nb gn k c.gen).2

section
variable {C1 C' : Ctx} {L : Names} {nb gn : Nat} {keep : Bool} {M : List (Nat × Loc)}

theorem V_back_leaf (hb : Back C1 C' L nb gn keep M) {a : AV} {cs : List Value} (hg : (if keep = true then plain a else closed a) = true) (k : V C1 a cs) : V C' a cs := by
  rcases hb.I with rfl | hI
  · exact V_plain a cs (by simpa using hg) k
  · refine V_shift (fun j hj => ⟨hI j hj, by rw [hb.w]⟩) a cs ?_ k
    split at hg
    · exact plain_closed a hg
    · exact hg

theorem Es_back_leaf (hb : Back C1 C' L nb gn keep M) {sz : Nat} {xs : List AV} {cs : List Value} (hg : (if keep = true then plains xs else closeds xs) = true) (k : Es C1 sz xs cs) : Es C' sz xs cs := by
  rcases hb.I with rfl | hI
  · exact Es_plain sz xs cs (by simpa using hg) k
  · refine Es_shift (fun j hj => ⟨hI j hj, by rw [hb.w]⟩) sz xs cs ?_ k
    split at hg
    · exact plains_closed xs hg
    · exact hg

mutual
theorem V_back (hb : Back C1 C' L nb gn keep M) : ∀ (a : AV) (cs : List Value), goodA keep M a = true → V C1 a cs → V C' (renA L nb gn a) cs
  | .ptr l g off, cs, h, k => by
    simp only [goodA] at h
    split at h <;> first | (cases h; done) | skip
    rename_i g' c hl
    simp only [beq_iff_eq] at h
    subst h
    simp only [V, renA] at *
    obtain ⟨a, e, _, k⟩ := k
    obtain ⟨h1, h2, h3⟩ := hb.at_ l _ hl
    simp only [Loc.gen] at h1 h2 h3
    refine ⟨a, e, h3, fun y _ => ?_⟩
    rw [h2]
    exact k c (by rw [hb.m]; exact hl)
  | .row l sz g off n, cs, h, k => by
    simp only [goodA] at h
    split at h <;> first | (cases h; done) | skip
    rename_i g' s c hl
    simp only [Bool.and_eq_true, beq_iff_eq] at h
    obtain ⟨rfl, rfl⟩ := h
    simp only [V, renA] at *
    obtain ⟨ao, cap, e, hn, hm, hso, _, k⟩ := k
    obtain ⟨h1, h2, h3⟩ := hb.at_ l _ hl
    simp only [Loc.gen] at h1 h2 h3
    refine ⟨ao, cap, e, hn, hm, hso, h3, fun xs _ => ?_⟩
    have := k c (by rw [hb.m]; exact hl)
    unfold RowVal at *
    rw [h2, hb.w]
    exact this
  | .node as, cs, h, k => by
    simp only [goodA] at h
    simp only [V, renA] at *
    exact Vs_back hb as cs h k
  | .top, cs, h, k => by simp only [renA]; exact V_back_leaf hb (by simpa only [goodA] using h) k
  | .v x, cs, h, k => by simp only [renA]; exact V_back_leaf hb (by simpa only [goodA] using h) k
  | .arr sz xs, cs, h, k => by simp only [renA]; exact V_back_leaf hb (by simpa only [goodA] using h) k
  | .sl sz xs, cs, h, k => by simp only [renA]; exact V_back_leaf hb (by simpa only [goodA] using h) k
  | .iptr x, cs, h, k => by simp only [renA]; exact V_back_leaf hb (by simpa only [goodA] using h) k
  | .vrow .., cs, h, k => by simp only [renA]; exact V_back_leaf hb (by simpa only [goodA] using h) k
  | .rptr .., cs, h, k => by simp only [renA]; exact V_back_leaf hb (by simpa only [goodA] using h) k
  | .tup _, cs, h, k => by simp [V] at k
theorem Vs_back (hb : Back C1 C' L nb gn keep M) : ∀ (as : List AV) (cs : List Value), goods keep M as = true → Vs C1 as cs → Vs C' (rens L nb gn as) cs
  | [], cs, _, k => by simpa [Vs, rens] using k
  | a :: as, cs, h, k => by
    simp only [goods, Bool.and_eq_true] at h
    simp only [Vs, rens] at *
    obtain ⟨c1, c2, e, h1, h2⟩ := k
    exact ⟨c1, c2, e, V_back hb a c1 h.1 h1, Vs_back hb as c2 h.2 h2⟩
end

theorem SV1_back (hb : Back C1 C' L nb gn keep M) {a : AV} {x : Value} (h : goodA keep M a = true) (k : SV1 C1 a x) : SV1 C' (renA L nb gn a) x := by
  cases a with
  | top => exact trivial
  | tup _ => exact k.elim
  | node as => obtain ⟨cs, e, k⟩ := k; exact ⟨cs, e, V_back hb _ _ h k⟩
  | arr sz xs => obtain ⟨cs, e, k⟩ := k; exact ⟨cs, e, V_back hb _ _ h k⟩
  | v y => exact V_back hb (.v y) _ h k
  | sl sz xs => exact V_back hb (.sl sz xs) _ h k
  | ptr l g off => exact V_back hb (.ptr l g off) _ h k
  | row l sz g off n => exact V_back hb (.row l sz g off n) _ h k
  | vrow l g off sz n cap => exact V_back hb (.vrow l g off sz n cap) _ h k
  | iptr y => exact V_back hb (.iptr y) _ h k
  | rptr l sz g i off => exact V_back hb (.rptr l sz g i off) _ h k

theorem SVs_back (hb : Back C1 C' L nb gn keep M) : ∀ {as : List AV} {xs : List Value}, goods keep M as = true → SVs C1 as xs → SVs C' (rens L nb gn as) xs
  | [], _, _, k => k
  | a :: as, xs, h, ⟨y, ys, e, h1, h2⟩ => by
    simp only [goods, Bool.and_eq_true] at h
    exact ⟨y, ys, e, SV1_back hb h.1 h1, SVs_back hb h.2 h2⟩

theorem SV_back (hb : Back C1 C' L nb gn keep M) {a : AV} {x : Value} (h : goodA keep M a = true) (k : SV C1 a x) : SV C' (renA L nb gn a) x := by
  cases a with
  | tup as =>
    obtain ⟨xs, e, k⟩ := k
    simp only [goodA] at h
    exact ⟨xs, e, SVs_back hb h k⟩
  | top => exact trivial
  | node as => exact SV1_back (a := .node as) hb h k
  | arr sz xs => exact SV1_back (a := .arr sz xs) hb h k
  | v y => exact SV1_back (a := .v y) hb h k
  | sl sz xs => exact SV1_back (a := .sl sz xs) hb h k
  | ptr l g off => exact SV1_back (a := .ptr l g off) hb h k
  | row l sz g off n => exact SV1_back (a := .row l sz g off n) hb h k
  | vrow l g off sz n cap => exact SV1_back (a := .vrow l g off sz n cap) hb h k
  | iptr y => exact SV1_back (a := .iptr y) hb h k
  | rptr l sz g i off => exact SV1_back (a := .rptr l sz g i off) hb h k

theorem LocOk_back (hb : Back C1 C' L nb gn keep M) {k : Nat} {c : Loc} (hl : look M k = some c) (hg : goodE keep M c = true) (h : LocOk C1 k c) : LocOk C' (kap L nb gn k c.gen).1 (renLoc L nb gn k c) := by
  obtain ⟨h1, h2, h3⟩ := hb.at_ k c hl
  cases c with
  | var g x =>
    simp only [goodE, Bool.and_eq_true] at hg
    obtain ⟨b, cur, Ty, k1, k2, k3⟩ := h
    exact ⟨b, cur, Ty, h2.trans k1, by rw [hb.w]; exact k2, V_back hb x _ hg.2 k3⟩
  | rows g sz xs =>
    simp only [goodE, Bool.and_eq_true] at hg
    rcases h with ⟨k1, k2⟩ | ⟨b, cur, Ty, cap, k1, k2, k3, k4, k5, k6⟩
    · exact .inl ⟨h2.trans k1, k2⟩
    · exact .inr ⟨b, cur, Ty, cap, h2.trans k1, by rw [hb.w]; exact k2, k3, k4, k5, Es_back_leaf hb hg.2 k6⟩
end

/-- Slots fit. -/
theorem SV_fit {w0 : World} {Ws I0 : Nat → Prop} {C C' : Ctx} {L : Names} {T : List Nat} (hw : WR w0 Ws I0 C) (hs : Seen C C' L T) {want raw : AV} {x : Value} (h : Fit C.m L raw want) (ht : ∀ l ∈ touch C.m raw want, l ∈ T)
    (hst : Stamped C'.used want) (k : SV C raw x) : SV C' want x := by
  have key : ∀ {a : AV}, a.isAgg = false → a.solid = true → SV C a x → Fit C.m L a want → (∀ l ∈ touch C.m a want, l ∈ T) → V C' want [x] := fun ha hso k h ht => V_fit hw hs want _ [x] h ht hst (k.oneOf hso ha)
  cases want with
  | top => exact trivial
  | v y => simp only [Fit] at h; subst h; exact key rfl rfl k (by simp [Fit]) ht
  | iptr y => have h0 := h; simp only [Fit] at h; obtain ⟨rfl, _⟩ := h; exact key rfl rfl k h0 ht
  | vrow => simp [Fit] at h
  | rptr => simp [Fit] at h
  | tup => simp [Fit] at h
  | ptr k' g off =>
    have h0 := h
    simp only [Fit] at h
    split at h <;> first | (cases h; done) | exact key rfl rfl k h0 ht
  | row k' sz g off n =>
    have h0 := h
    simp only [Fit] at h
    split at h <;> first | (cases h; done) | exact key rfl rfl k h0 ht
  | sl sz ws =>
    have h0 := h
    simp only [Fit] at h
    split at h <;> first | (cases h; done) | exact key rfl rfl k h0 ht
  | node ws =>
    have h0 := h
    simp only [Fit] at h
    split at h <;> first | (cases h; done) | skip
    obtain ⟨cs, e, k⟩ := k
    exact ⟨cs, e, V_fit hw hs _ _ _ h0 ht hst k⟩
  | arr sz ws =>
    have h0 := h
    simp only [Fit] at h
    split at h <;> first | (cases h; done) | skip
    obtain ⟨cs, e, k⟩ := k
    exact ⟨cs, e, V_fit hw hs _ _ _ h0 ht hst k⟩

theorem SVl_fit {w0 : World} {Ws I0 : Nat → Prop} {C C' : Ctx} {L : Names} {T : List Nat} (hw : WR w0 Ws I0 C) (hs : Seen C C' L T) : ∀ {wants raws : List AV} {ys : List Value}, FitL C.m L raws wants → (∀ l ∈ touchL C.m raws wants, l ∈ T) →
    StampedL C'.used wants → SVl C raws ys → SVl C' wants ys
  | [], raws, ys, h, _, _, k => by simp only [FitL] at h; subst h; exact k
  | w :: ws, raws, ys, h, ht, hst, k => by
    simp only [FitL] at h
    obtain ⟨r, rs', rfl, h1, h2⟩ := h
    simp only [SVl, StampedL, touchL] at *
    obtain ⟨y, ys', e, k1, k2⟩ := k
    exact ⟨y, ys', e, SV_fit hw hs h1 (fun t htt => ht t (List.mem_append_left _ htt)) hst.1 k1, SVl_fit hw hs h2 (fun t htt => ht t (List.mem_append_right _ htt)) hst.2 k2⟩

end Go.Proofs.YtngemgmnpcaamaaDoor.WL
