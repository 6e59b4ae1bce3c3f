/-
  THE ABSTRACT VALUES, and what it means that memory holds one.
-/
import Derived.WalkKit
namespace Go.Proofs.YtngemgmnpcaamaaDoor.WL
open Go

/-- An abstract value: a tree of what a Go value holds; memory shows only in references to locations of the call's own. -/
inductive AV where
  | top
  | v (x : Value)
  | node (cs : List AV)
  | arr (sz : Nat) (xs : List AV)
  | sl (sz : Nat) (xs : List AV)
  | ptr (l g off : Nat)
  | row (l sz g off n : Nat)
  | vrow (l g off sz n cap : Nat)
  | iptr (x : AV)
  | rptr (l sz g i off : Nat)
  | tup (vs : List AV)

instance : Inhabited AV := ⟨.top⟩

/-- A location of the call's own: a variable, or a row that may grow. -/
inductive Loc where
  | var (g : Nat) (x : AV)
  | rows (g sz : Nat) (xs : List AV)

def Loc.gen : Loc → Nat
  | .var g _ => g
  | .rows g _ _ => g

/-- What the references of a location hang on: its kind, its element's size. -/
def Loc.same : Loc → Loc → Prop
  | .var g _, .var g' _ => g = g'
  | .rows g sz _, .rows g' sz' _ => g = g' ∧ sz = sz'
  | _, _ => False

theorem Loc.same_refl (c : Loc) : Loc.same c c := by cases c <;> simp [Loc.same]

structure Ctx where
  w : World
  I : Nat → Prop
  blk : Nat → Option Nat
  m : Nat → Option Loc
  used : Nat → Prop

/-- The block's cells from 'o' on are these. -/
def CellsAt (w : World) (b o : Nat) (cs : List Value) : Prop := ∀ j u, cs[j]? = some u → w.cell? ⟨b, o + j, none⟩ = some u

/-- A slice value over a row. -/
def RowVal (C : Ctx) (l sz off n : Nat) (x : Value) : Prop :=
  match C.blk l with
  | none => off = 0 ∧ n = 0 ∧ ∃ a, x = .slice a 0 0
  | some b => ∃ cur T cap a, C.w.heap[b]? = some (.cells cur T (0, 0)) ∧ cur.size = cap * sz ∧ cap ≤ maxLen ∧ off + n ≤ cap ∧
      x = .slice (some a) n (cap - off) ∧ (off < cap ∨ off = 0 → a = ⟨b, off * sz, none⟩)

mutual
def AV.size : AV → Nat
  | .node cs => AV.sizes cs
  | .arr sz xs => sz * xs.length
  | _ => 1
def AV.sizes : List AV → Nat
  | [] => 0
  | c :: cs => AV.size c + AV.sizes cs
end

mutual
/-- The cells hold this value. -/
def V (C : Ctx) : AV → List Value → Prop
  | .top, cs => ∃ x, cs = [x] ∧ x.oneCell' = true
  | .v x, cs => cs = [x] ∧ x.oneCell' = true
  | .node as, cs => Vs C as cs
  | .arr sz xs, cs => Es C sz xs cs
  | .sl sz xs, cs => ∃ a cap body, cs = [.slice a xs.length cap] ∧ xs.length ≤ cap ∧ cap ≤ maxLen ∧ Es C sz xs body ∧
      (xs = [] ∨ ∃ b o, a = some ⟨b, o, none⟩ ∧ C.I b ∧ CellsAt C.w b o body)
  | .ptr l g off, cs => ∃ a, cs = [.pointer (some a)] ∧ C.used g ∧ ∀ y, C.m l = some (.var g y) → ∃ b, C.blk l = some b ∧ a = ⟨b, off, none⟩
  | .row l sz g off n, cs => ∃ ao cap, cs = [.slice ao n cap] ∧ n ≤ cap ∧ cap ≤ maxLen ∧ (0 < n → ao.isSome = true) ∧ C.used g ∧ ∀ xs, C.m l = some (.rows g sz xs) → RowVal C l sz off n (.slice ao n cap)
  | .vrow l g off _ n cap, cs => ∃ a, cs = [.slice (some a) n cap] ∧ n ≤ cap ∧ cap ≤ maxLen ∧ C.used g ∧ ∀ y, C.m l = some (.var g y) → ∃ b, C.blk l = some b ∧ (0 < cap → a = ⟨b, off, none⟩)
  | .iptr x, cs => ∃ b o body, cs = [.pointer (some ⟨b, o, none⟩)] ∧ C.I b ∧ V C x body ∧ CellsAt C.w b o body
  | .rptr l sz g i off, cs => ∃ a, cs = [.pointer (some a)] ∧ C.used g ∧ ∀ xs, C.m l = some (.rows g sz xs) → ∃ b, C.blk l = some b ∧ a = ⟨b, i * sz + off, none⟩
  | .tup _, _ => False
def Vs (C : Ctx) : List AV → List Value → Prop
  | [], cs => cs = []
  | a :: as, cs => ∃ c1 c2, cs = c1 ++ c2 ∧ V C a c1 ∧ Vs C as c2
def Es (C : Ctx) (sz : Nat) : List AV → List Value → Prop
  | [], cs => cs = []
  | a :: as, cs => ∃ c1 c2, cs = c1 ++ c2 ∧ c1.length = sz ∧ V C a c1 ∧ Es C sz as c2
end

/-- What a later context keeps of an earlier one. -/
structure Ctx.Le (C C' : Ctx) : Prop where
  used : ∀ g, C.used g → C'.used g
  I : ∀ k, C.I k → C'.I k
  mem : ∀ k, C.I k → C'.w.heap[k]? = C.w.heap[k]?
  loc : ∀ l c', C'.m l = some c' → C.used c'.gen → ∃ c, C.m l = some c ∧ Loc.same c c' ∧ C'.blk l = C.blk l ∧
    ∀ b, C.blk l = some b → ∀ cur T, C.w.heap[b]? = some (.cells cur T (0, 0)) → ∃ cur', C'.w.heap[b]? = some (.cells cur' T (0, 0)) ∧ cur'.size = cur.size

theorem Ctx.Le.refl (C : Ctx) : C.Le C := ⟨fun _ h => h, fun _ h => h, fun _ _ => rfl, fun _ c h _ => ⟨c, h, Loc.same_refl c, rfl, fun _ _ cur _ h => ⟨cur, h, rfl⟩⟩⟩

theorem Loc.same_gen {c c' : Loc} (h : Loc.same c c') : c.gen = c'.gen := by
  cases c <;> cases c' <;> simp [Loc.same, Loc.gen] at * <;> first | exact h | exact h.1

theorem Loc.same_trans {a b c : Loc} (h : Loc.same a b) (k : Loc.same b c) : Loc.same a c := by
  cases a <;> cases b <;> cases c <;> simp [Loc.same] at * <;> first | exact h.trans k | exact ⟨h.1.trans k.1, h.2.trans k.2⟩

theorem Ctx.Le.trans {A B C : Ctx} (h : A.Le B) (k : B.Le C) : A.Le C := by
  refine ⟨fun g hg => k.used g (h.used g hg), fun i hi => k.I i (h.I i hi), fun i hi => (k.mem i (h.I i hi)).trans (h.mem i hi), fun l c'' hc hg => ?_⟩
  obtain ⟨c', h1, h2, h3, h4⟩ := k.loc l c'' hc (h.used _ hg)
  obtain ⟨c, g1, g2, g3, g4⟩ := h.loc l c' h1 (by rw [Loc.same_gen h2]; exact hg)
  refine ⟨c, g1, Loc.same_trans g2 h2, h3.trans g3, fun b hb cur T hcur => ?_⟩
  obtain ⟨cur', e1, e2⟩ := g4 b hb cur T hcur
  obtain ⟨cur'', e3, e4⟩ := h4 b (g3 ▸ hb) cur' T e1
  exact ⟨cur'', e3, e4.trans e2⟩

theorem CellsAt.mono {w w' : World} {b o : Nat} {cs : List Value} (h : CellsAt w b o cs) (e : w'.heap[b]? = w.heap[b]?) : CellsAt w' b o cs := by
  intro j u hu
  have := h j u hu
  simpa [World.cell?, e] using this

theorem RowVal.mono {C C' : Ctx} {l sz off n : Nat} {x : Value} (h : RowVal C l sz off n x) (e : C'.blk l = C.blk l)
    (k : ∀ b, C.blk l = some b → ∀ cur T, C.w.heap[b]? = some (.cells cur T (0, 0)) → ∃ cur', C'.w.heap[b]? = some (.cells cur' T (0, 0)) ∧ cur'.size = cur.size) : RowVal C' l sz off n x := by
  unfold RowVal at *
  rw [e]
  cases hb : C.blk l with
  | none => simpa [hb] using h
  | some b =>
    simp only [hb] at h ⊢
    obtain ⟨cur, T, cap, a, h1, h2, h3⟩ := h
    obtain ⟨cur', e1, e2⟩ := k b hb cur T h1
    exact ⟨cur', T, cap, a, e1, e2.trans h2, h3⟩

mutual
theorem V_mono {C C' : Ctx} (h : C.Le C') : ∀ (a : AV) (cs : List Value), V C a cs → V C' a cs
  | .top, _, k => by simpa [V] using k
  | .v x, _, k => by simpa [V] using k
  | .node as, cs, k => by simp only [V] at *; exact Vs_mono h as cs k
  | .arr sz xs, cs, k => by simp only [V] at *; exact Es_mono h sz xs cs k
  | .sl sz xs, cs, k => by
    simp only [V] at *
    obtain ⟨a, cap, body, e, h1, h2, h3, h4⟩ := k
    refine ⟨a, cap, body, e, h1, h2, Es_mono h sz xs body h3, h4.imp id ?_⟩
    rintro ⟨b, o, h5, h6, h7⟩
    exact ⟨b, o, h5, h.I b h6, h7.mono (h.mem b h6)⟩
  | .ptr l g off, cs, k => by
    simp only [V] at *
    obtain ⟨a, e, hg, k⟩ := k
    refine ⟨a, e, h.used _ hg, fun y hc => ?_⟩
    obtain ⟨c, h1, h2, h3, _⟩ := h.loc l _ hc (by simpa [Loc.gen] using hg)
    cases c with
    | var g y => simp only [Loc.same] at h2; subst h2; rw [h3]; exact k _ h1
    | rows g' sz' xs' => simp [Loc.same] at h2
  | .row l sz g off n, cs, k => by
    simp only [V] at *
    obtain ⟨ao, cap, e, hn, hm, hs, hg, k⟩ := k
    refine ⟨ao, cap, e, hn, hm, hs, h.used _ hg, fun xs hc => ?_⟩
    obtain ⟨c, h1, h2, h3, h4⟩ := h.loc l _ hc (by simpa [Loc.gen] using hg)
    cases c with
    | var g y => simp [Loc.same] at h2
    | rows g' sz' xs' =>
      simp only [Loc.same] at h2
      obtain ⟨rfl, rfl⟩ := h2
      exact (k _ h1).mono h3 h4
  | .vrow l g off sz n cap, cs, k => by
    simp only [V] at *
    obtain ⟨a, e, hn, hm, hg, k⟩ := k
    refine ⟨a, e, hn, hm, h.used _ hg, fun y hc => ?_⟩
    obtain ⟨c, h1, h2, h3, _⟩ := h.loc l _ hc (by simpa [Loc.gen] using hg)
    cases c with
    | var g y => simp only [Loc.same] at h2; subst h2; rw [h3]; exact k _ h1
    | rows g' sz' xs' => simp [Loc.same] at h2
  | .iptr x, cs, k => by
    simp only [V] at *
    obtain ⟨b, o, body, e, h1, h2, h3⟩ := k
    exact ⟨b, o, body, e, h.I b h1, V_mono h x body h2, h3.mono (h.mem b h1)⟩
  | .rptr l sz g i off, cs, k => by
    simp only [V] at *
    obtain ⟨a, e, hg, k⟩ := k
    refine ⟨a, e, h.used _ hg, fun xs hc => ?_⟩
    obtain ⟨c, h1, h2, h3, _⟩ := h.loc l _ hc (by simpa [Loc.gen] using hg)
    cases c with
    | var g y => simp [Loc.same] at h2
    | rows g' sz' xs' =>
      simp only [Loc.same] at h2
      obtain ⟨rfl, rfl⟩ := h2
      rw [h3]
      exact k _ h1
  | .tup _, _, k => by simp [V] at k
theorem Vs_mono {C C' : Ctx} (h : C.Le C') : ∀ (as : List AV) (cs : List Value), Vs C as cs → Vs C' as cs
  | [], _, k => by simpa [Vs] using k
  | a :: as, cs, k => by
    simp only [Vs] at *
    obtain ⟨c1, c2, e, h1, h2⟩ := k
    exact ⟨c1, c2, e, V_mono h a c1 h1, Vs_mono h as c2 h2⟩
theorem Es_mono {C C' : Ctx} (h : C.Le C') (sz : Nat) : ∀ (as : List AV) (cs : List Value), Es C sz as cs → Es C' sz as cs
  | [], _, k => by simpa [Es] using k
  | a :: as, cs, k => by
    simp only [Es] at *
    obtain ⟨c1, c2, e, hl, h1, h2⟩ := k
    exact ⟨c1, c2, e, hl, V_mono h a c1 h1, Es_mono h sz as c2 h2⟩
end

mutual
theorem V_oneCell {C : Ctx} : ∀ (a : AV) (cs : List Value), V C a cs → ∀ u ∈ cs, u.oneCell' = true
  | .top, _, k => by simp only [V] at k; obtain ⟨x, rfl, h⟩ := k; simpa using h
  | .v x, _, k => by simp only [V] at k; obtain ⟨rfl, h⟩ := k; simpa using h
  | .node as, cs, k => by simp only [V] at k; exact Vs_oneCell as cs k
  | .arr sz xs, cs, k => by simp only [V] at k; exact Es_oneCell sz xs cs k
  | .sl sz xs, cs, k => by simp only [V] at k; obtain ⟨_, _, _, rfl, _⟩ := k; simp [Value.oneCell']
  | .ptr .., cs, k => by simp only [V] at k; obtain ⟨_, rfl, _⟩ := k; simp [Value.oneCell']
  | .row .., cs, k => by simp only [V] at k; obtain ⟨_, _, rfl, _⟩ := k; simp [Value.oneCell']
  | .vrow .., cs, k => by simp only [V] at k; obtain ⟨_, rfl, _⟩ := k; simp [Value.oneCell']
  | .iptr x, cs, k => by simp only [V] at k; obtain ⟨_, _, _, rfl, _⟩ := k; simp [Value.oneCell']
  | .rptr .., cs, k => by simp only [V] at k; obtain ⟨_, rfl, _⟩ := k; simp [Value.oneCell']
  | .tup _, _, k => by simp [V] at k
theorem Vs_oneCell {C : Ctx} : ∀ (as : List AV) (cs : List Value), Vs C as cs → ∀ u ∈ cs, u.oneCell' = true
  | [], _, k => by simp only [Vs] at k; simp [k]
  | a :: as, cs, k => by
    simp only [Vs] at k
    obtain ⟨c1, c2, rfl, h1, h2⟩ := k
    intro u hu
    rcases List.mem_append.1 hu with h | h
    · exact V_oneCell a c1 h1 u h
    · exact Vs_oneCell as c2 h2 u h
theorem Es_oneCell {C : Ctx} (sz : Nat) : ∀ (as : List AV) (cs : List Value), Es C sz as cs → ∀ u ∈ cs, u.oneCell' = true
  | [], _, k => by simp only [Es] at k; simp [k]
  | a :: as, cs, k => by
    simp only [Es] at k
    obtain ⟨c1, c2, rfl, _, h1, h2⟩ := k
    intro u hu
    rcases List.mem_append.1 hu with h | h
    · exact V_oneCell a c1 h1 u h
    · exact Es_oneCell sz as c2 h2 u h
end

theorem Es_length {C : Ctx} {sz : Nat} : ∀ {as : List AV} {cs : List Value}, Es C sz as cs → cs.length = as.length * sz
  | [], cs, k => by simp only [Es] at k; simp [k]
  | a :: as, cs, k => by
    simp only [Es] at k
    obtain ⟨c1, c2, rfl, hl, _, h2⟩ := k
    rw [List.length_append, hl, Es_length h2, List.length_cons, Nat.succ_mul, Nat.add_comm]

mutual
theorem V_size {C : Ctx} : ∀ (a : AV) (cs : List Value), V C a cs → cs.length = a.size
  | .top, _, k => by simp only [V] at k; obtain ⟨_, rfl, _⟩ := k; rfl
  | .v x, _, k => by simp only [V] at k; simp [k, AV.size]
  | .node as, cs, k => by simp only [V, AV.size] at *; exact Vs_size as cs k
  | .arr sz xs, cs, k => by simp only [V, AV.size] at *; rw [Es_length k, Nat.mul_comm]
  | .sl sz xs, cs, k => by simp only [V] at k; obtain ⟨_, _, _, rfl, _⟩ := k; rfl
  | .ptr .., cs, k => by simp only [V] at k; obtain ⟨_, rfl, _⟩ := k; rfl
  | .row .., cs, k => by simp only [V] at k; obtain ⟨_, _, rfl, _⟩ := k; rfl
  | .vrow .., cs, k => by simp only [V] at k; obtain ⟨_, rfl, _⟩ := k; rfl
  | .iptr x, cs, k => by simp only [V] at k; obtain ⟨_, _, _, rfl, _⟩ := k; rfl
  | .rptr .., cs, k => by simp only [V] at k; obtain ⟨_, rfl, _⟩ := k; rfl
  | .tup _, _, k => by simp [V] at k
theorem Vs_size {C : Ctx} : ∀ (as : List AV) (cs : List Value), Vs C as cs → cs.length = AV.sizes as
  | [], _, k => by simp only [Vs] at k; simp [k, AV.sizes]
  | a :: as, cs, k => by
    simp only [Vs] at k
    obtain ⟨c1, c2, rfl, h1, h2⟩ := k
    simp [AV.sizes, V_size a c1 h1, Vs_size as c2 h2]
end


/-! Lists of elements -/
theorem Es_append {C : Ctx} {sz : Nat} : ∀ {xs ys : List AV} {c1 c2 : List Value}, Es C sz xs c1 → Es C sz ys c2 → Es C sz (xs ++ ys) (c1 ++ c2)
  | [], ys, c1, c2, h, k => by simp only [Es] at h; simpa [h] using k
  | x :: xs, ys, c1, c2, h, k => by
    simp only [Es] at h
    obtain ⟨d1, d2, rfl, hl, h1, h2⟩ := h
    simp only [List.cons_append, Es]
    exact ⟨d1, d2 ++ c2, by simp, hl, h1, Es_append h2 k⟩

theorem Es_split {C : Ctx} {sz : Nat} : ∀ {xs ys : List AV} {cs : List Value}, Es C sz (xs ++ ys) cs → Es C sz xs (cs.take (xs.length * sz)) ∧ Es C sz ys (cs.drop (xs.length * sz))
  | [], ys, cs, h => by simp [Es]; simpa using h
  | x :: xs, ys, cs, h => by
    simp only [List.cons_append, Es] at h
    obtain ⟨d1, d2, rfl, hl, h1, h2⟩ := h
    obtain ⟨k1, k2⟩ := Es_split h2
    have e : (x :: xs).length * sz = d1.length + xs.length * sz := by rw [List.length_cons, Nat.succ_mul, hl, Nat.add_comm]
    rw [e]
    refine ⟨?_, ?_⟩
    · simp only [Es]
      exact ⟨d1, d2.take (xs.length * sz), by rw [List.take_append, List.take_of_length_le (by omega)]; simp, hl, h1, k1⟩
    · rw [List.drop_append, List.drop_of_length_le (l := d1) (by omega)]; simpa using k2

theorem Es_get {C : Ctx} {sz i : Nat} {xs : List AV} {x : AV} {cs : List Value} (h : Es C sz xs cs) (hx : xs[i]? = some x) :
    V C x ((cs.drop (i * sz)).take sz) ∧ ((cs.drop (i * sz)).take sz).length = sz := by
  obtain ⟨hi, rfl⟩ := List.getElem?_eq_some_iff.1 hx
  have e : xs = xs.take i ++ xs[i] :: xs.drop (i + 1) := by rw [List.getElem_cons_drop]; simp
  rw [e] at h
  have k := (Es_split h).2
  rw [List.length_take, Nat.min_eq_left (Nat.le_of_lt hi)] at k
  simp only [Es] at k
  obtain ⟨d1, d2, e1, hl, h1, _⟩ := k
  rw [e1, List.take_append, ← hl]
  simp only [List.take_length, Nat.sub_self, List.take_zero, List.append_nil]
  exact ⟨h1, trivial⟩

theorem Es_set {C : Ctx} {sz i : Nat} {xs : List AV} {y : AV} {cs d : List Value} (h : Es C sz xs cs) (hi : i < xs.length) (hd : d.length = sz) (hy : V C y d) :
    Es C sz (xs.set i y) (cs.take (i * sz) ++ d ++ cs.drop (i * sz + sz)) := by
  have e : xs = xs.take i ++ (xs[i] :: xs.drop (i + 1)) := by rw [List.getElem_cons_drop]; simp
  have hl := Es_length h
  rw [e] at h
  obtain ⟨k1, k2⟩ := Es_split h
  rw [List.length_take, Nat.min_eq_left (Nat.le_of_lt hi)] at k1 k2
  simp only [Es] at k2
  obtain ⟨d1, d2, e1, hl1, _, h2⟩ := k2
  have e2 : xs.set i y = xs.take i ++ (y :: xs.drop (i + 1)) := by rw [List.set_eq_take_append_cons_drop, if_pos hi]
  rw [e2, List.append_assoc]
  refine Es_append k1 ?_
  simp only [Es]
  refine ⟨d, _, rfl, hd, hy, ?_⟩
  have e3 : cs.drop (i * sz + sz) = d2 := by
    rw [← List.drop_drop, e1, ← hl1]; simp
  rw [e3]; exact h2

theorem Es_nil {C : Ctx} {sz : Nat} : Es C sz [] [] := by simp [Es]
theorem Es_one {C : Ctx} {sz : Nat} {x : AV} {cs : List Value} (h : V C x cs) (hl : cs.length = sz) : Es C sz [x] cs := by
  simp only [Es]; exact ⟨cs, [], by simp, hl, h, rfl⟩

theorem Es_take {C : Ctx} {sz n : Nat} {xs : List AV} {cs : List Value} (h : Es C sz xs cs) : Es C sz (xs.take n) (cs.take (n * sz)) := by
  have h' := h
  rw [← List.take_append_drop n xs] at h'
  have k := (Es_split h').1
  rcases Nat.le_total n xs.length with hn | hn
  · rwa [List.length_take, Nat.min_eq_left hn] at k
  · have hl := Es_length h
    have h2 : cs.length ≤ n * sz := by rw [hl]; exact Nat.mul_le_mul_right _ hn
    rw [List.take_of_length_le hn, List.take_of_length_le h2]
    exact h
theorem Es_drop {C : Ctx} {sz n : Nat} {xs : List AV} {cs : List Value} (h : Es C sz xs cs) : Es C sz (xs.drop n) (cs.drop (n * sz)) := by
  have h' := h
  rw [← List.take_append_drop n xs] at h'
  have k := (Es_split h').2
  rcases Nat.le_total n xs.length with hn | hn
  · rwa [List.length_take, Nat.min_eq_left hn] at k
  · have hl := Es_length h
    have h2 : cs.length ≤ n * sz := by rw [hl]; exact Nat.mul_le_mul_right _ hn
    rw [List.drop_of_length_le hn, List.drop_of_length_le h2]
    exact Es_nil

end Go.Proofs.YtngemgmnpcaamaaDoor.WL
