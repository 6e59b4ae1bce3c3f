/-
  REGIONS, second part: rows of operations in any order.
-/
import Derived.Test.YtngemgmnpcaamaaDoorWl20
namespace Go.Proofs.YtngemgmnpcaamaaDoor.WL
open Go

abbrev AS := (Nat → Option AV) × (Nat → Option Loc)

/-- Whether the guard lets the operation run. -/
def wantV (fr : Nat → Option AV) : Option (Nat × Bool) → Option Bool
  | none => some true
  | some (t, b) => match fr t with
    | some (.v (.bool x)) => some (x == b)
    | some (.tup []) => some false
    | _ => none

/-- The sources of names. -/
def nameSrcs (L : Names) : List Nat := L.filterMap fun e => match e.2 with | some (l, _) => some l | none => none

def nbOf (d : Nat) : Nat := 1000000 + 10000 * d

def OpE (P : Program) (G : Nat → Option AV) (g : Nat) (op : COp) (d : Nat) (vals : List AV) (m : Nat → Option Loc) (av : AV) (us : List (Nat × Option Loc)) (rd : List Nat) : Prop :=
  match op with
  | .call f => ∃ L args M keep res M' T, CallOk P G f vals m g (nbOf d) L args M keep res M' T ∧ av = renA L (nbOf d) g res ∧ us = callUs (nbOf d) g L M keep M' T ∧ rd = T ++ nameSrcs L
  | op => step op vals m g d = some (av, us) ∧ rd = reads op vals

def OpR (P : Program) (G : Nat → Option AV) (g : Nat) (c : COper) (s : AS) (av : AV) (us : List (Nat × Option Loc)) (rd : List Nat) : Prop :=
  (wantV s.1 c.guard = some false ∧ av = .tup [] ∧ us = [] ∧ rd = []) ∨
  (wantV s.1 c.guard = some true ∧ ∃ vals, evs G s.1 c.xs = some vals ∧ OpE P G g c.op (c.dst.getD 0) vals s.2 av us rd)

def setd (fr : Nat → Option AV) (dst : Option Nat) (av : AV) : Nat → Option AV :=
  match dst with
  | none => fr
  | some d => upd fr d (some av)

def AS.after (s : AS) (c : COper) (av : AV) (us : List (Nat × Option Loc)) : AS := (setd s.1 c.dst av, ups s.2 us)

/-- What an operation looked at and turned. -/
abbrev Log := List (Nat × List Nat × List Nat)

def RunL (P : Program) (G : Nat → Option AV) (clk : Nat) : List (Nat × COper) → AS → Log → AS → Prop
  | [], s, lg, s' => lg = [] ∧ s' = s
  | (i, c) :: r, s, lg, s' => ∃ av us rd lg', OpR P G (clk + i) c s av us rd ∧ lg = (i, rd, us.map (·.1)) :: lg' ∧ RunL P G clk r (s.after c av us) lg' s'

def COpd.slot : COpd → Option Nat
  | .t n => some n
  | _ => none

/-- The slots that an operation looks at. -/
def COper.looks (c : COper) : List Nat := c.xs.filterMap COpd.slot ++ (match c.guard with | some (t, _) => [t] | none => [])

theorem evs_local {G fr fr' : Nat → Option AV} : ∀ {xs : List COpd}, (∀ t ∈ xs.filterMap COpd.slot, fr' t = fr t) → evs G fr' xs = evs G fr xs
  | [], _ => rfl
  | x :: xs, h => by
    have h1 : ev G fr' x = ev G fr x := by
      cases x with
      | t n => exact h n (List.mem_filterMap.2 ⟨.t n, List.mem_cons_self, rfl⟩)
      | c x => rfl
      | g n => rfl
    have h2 : evs G fr' xs = evs G fr xs := evs_local fun t ht => h t (by
      obtain ⟨y, hy, e⟩ := List.mem_filterMap.1 ht
      exact List.mem_filterMap.2 ⟨y, List.mem_cons_of_mem _ hy, e⟩)
    simp only [evs, h1, h2]

section
variable {P : Program} {G : Nat → Option AV}

mutual
theorem Fit_local {m m' : Nat → Option Loc} {L : Names} : ∀ (want raw : AV), (∀ l ∈ touch m raw want, m' l = m l) → Fit m L raw want → Fit m' L raw want ∧ touch m' raw want = touch m raw want
  | .top, raw, _, h => by simp only [Fit, touch] at *; exact ⟨h, trivial⟩
  | .v x, raw, _, h => by simp only [Fit, touch] at *; exact ⟨h, trivial⟩
  | .iptr x, raw, _, h => by simp only [Fit, touch] at *; exact ⟨h, trivial⟩
  | .ptr .., raw, _, h => by simp only [Fit, touch] at *; exact ⟨h, trivial⟩
  | .row .., raw, _, h => by simp only [Fit, touch] at *; exact ⟨h, trivial⟩
  | .vrow .., raw, _, h => by simp [Fit] at h
  | .rptr .., raw, _, h => by simp [Fit] at h
  | .tup _, raw, _, h => by simp [Fit] at h
  | .node ws, raw, ht, h => by
    simp only [Fit] at h
    split at h <;> first | (cases h; done) | skip
    simp only [Fit, touch] at *
    exact FitL_local ws _ ht h
  | .arr sz ws, raw, ht, h => by
    simp only [Fit] at h
    split at h <;> first | (cases h; done) | skip
    simp only [Fit, touch] at *
    have := FitL_local ws _ ht h.2
    exact ⟨⟨h.1, this.1⟩, this.2⟩
  | .sl sz ws, raw, ht, h => by
    simp only [Fit] at h
    split at h
    · simp only [Fit, touch]; exact ⟨h, trivial⟩
    · rename_i l s g off n
      obtain ⟨rfl, xs, hm, hfit, hL⟩ := h
      simp only [touch, hm] at ht
      have hml := ht l List.mem_cons_self
      have := FitL_local ws _ (fun t htt => ht t (List.mem_cons_of_mem _ htt)) hL
      simp only [Fit, touch, hml, hm]
      exact ⟨⟨trivial, xs, rfl, hfit, this.1⟩, by rw [this.2]⟩
    · rename_i l g off s n cap
      obtain ⟨rfl, y, xs, hm, he, hn, hL⟩ := h
      simp only [touch, hm, he] at ht
      have hml := ht l List.mem_cons_self
      have := FitL_local ws _ (fun t htt => ht t (List.mem_cons_of_mem _ htt)) hL
      simp only [Fit, touch, hml, hm, he]
      exact ⟨⟨trivial, y, xs, rfl, he, hn, this.1⟩, by rw [this.2]⟩
    · simp only [Fit, touch]; exact ⟨h, trivial⟩
    · cases h
theorem FitL_local {m m' : Nat → Option Loc} {L : Names} : ∀ (ws rs : List AV), (∀ l ∈ touchL m rs ws, m' l = m l) → FitL m L rs ws → FitL m' L rs ws ∧ touchL m' rs ws = touchL m rs ws
  | [], rs, _, h => by simp only [FitL] at *; subst h; simp [touchL]
  | w :: ws, rs, ht, h => by
    simp only [FitL] at h
    obtain ⟨r, rs', rfl, h1, h2⟩ := h
    simp only [touchL] at ht
    have k1 := Fit_local w r (fun t htt => ht t (List.mem_append_left _ htt)) h1
    have k2 := FitL_local ws rs' (fun t htt => ht t (List.mem_append_right _ htt)) h2
    simp only [FitL, touchL]
    exact ⟨⟨r, rs', rfl, k1.1, k2.1⟩, by rw [k1.2, k2.2]⟩
end

theorem look_src_mem {L : Names} {k l g : Nat} (h : look L k = some (some (l, g))) : l ∈ nameSrcs L := List.mem_filterMap.2 ⟨_, look_mem h, rfl⟩

theorem FitE_local {m m' : Nat → Option Loc} {L : Names} {T : List Nat} {k : Nat} {c : Loc} (hn : ∀ l ∈ nameSrcs L, m' l = m l) (hT : ∀ l ∈ T, m' l = m l) (ht : ∀ t ∈ touchE m L k c, t ∈ T) (h : FitE m L k c) : FitE m' L k c ∧ touchE m' L k c = touchE m L k c := by
  cases c with
  | var g w =>
    obtain ⟨l, g1, raw, h1, h2, h3⟩ := h
    have e := hn l (look_src_mem h1)
    simp only [touchE, h1, h2] at ht
    have k1 := Fit_local w raw (fun t htt => hT t (ht t htt)) h3
    simp only [FitE, touchE, h1, e, h2]
    exact ⟨⟨l, g1, raw, rfl, by rw [e]; exact h2, k1.1⟩, k1.2⟩
  | rows g sz ws =>
    rcases h with ⟨l, g1, xs, h1, h2, h3⟩ | ⟨h1, h2⟩
    · have e := hn l (look_src_mem h1)
      simp only [touchE, h1, h2] at ht
      have k1 := FitL_local ws xs (fun t htt => hT t (ht t htt)) h3
      simp only [FitE, touchE, h1, e, h2]
      exact ⟨.inl ⟨l, g1, xs, rfl, by rw [e]; exact h2, k1.1⟩, k1.2⟩
    · simp only [FitE, touchE, h1]
      exact ⟨.inr ⟨trivial, h2⟩, trivial⟩

theorem CallOk.local {f g nb : Nat} {vals : List AV} {m m' : Nat → Option Loc} {L : Names} {args : List AV} {M : List (Nat × Loc)} {keep : Bool} {res : AV} {M' : List (Nat × Loc)} {T : List Nat}
    (h : CallOk P G f vals m g nb L args M keep res M' T) (hl : ∀ l ∈ T ++ nameSrcs L, m' l = m l) : CallOk P G f vals m' g nb L args M keep res M' T := by
  have hT : ∀ l ∈ T, m' l = m l := fun l h => hl l (List.mem_append_left _ h)
  have hn : ∀ l ∈ nameSrcs L, m' l = m l := fun l h => hl l (List.mem_append_right _ h)
  have k := FitL_local args vals (fun t htt => hT t (h.lent t htt)) h.fit
  refine ⟨h.meets, k.1, fun t htt => h.lent t (by rw [← k.2]; exact htt), h.st, ⟨h.named.nd, fun e he => ?_, fun e he t htt => ?_, h.named.ns, h.named.apart, h.named.st⟩, h.back, h.old⟩
  · exact (FitE_local hn hT (h.named.lent e he) (h.named.fit e he)).1
  · have := (FitE_local hn hT (h.named.lent e he) (h.named.fit e he)).2
    exact h.named.lent e he t (by rw [← this]; exact htt)

theorem OpE_local {g d : Nat} {op : COp} {vals : List AV} {m m' : Nat → Option Loc} {av : AV} {us : List (Nat × Option Loc)} {rd : List Nat} (h : OpE P G g op d vals m av us rd) (hl : ∀ l ∈ rd, m' l = m l) : OpE P G g op d vals m' av us rd := by
  by_cases hc : ∃ f, op = .call f
  · obtain ⟨f, rfl⟩ := hc
    obtain ⟨L, args, M, keep, res, M', T, h1, h2, h3, rfl⟩ := h
    exact ⟨L, args, M, keep, res, M', T, h1.local hl, h2, h3, rfl⟩
  · have e : ∀ m, OpE P G g op d vals m av us rd = (step op vals m g d = some (av, us) ∧ rd = reads op vals) := by
      intro m
      cases op <;> first | rfl | exact absurd ⟨_, rfl⟩ hc
    rw [e] at h ⊢
    obtain ⟨h1, rfl⟩ := h
    exact ⟨by rw [step_local hl]; exact h1, rfl⟩

theorem OpR_local {g : Nat} {c : COper} {s s' : AS} {av : AV} {us : List (Nat × Option Loc)} {rd : List Nat} (h : OpR P G g c s av us rd) (h1 : ∀ t ∈ c.looks, s'.1 t = s.1 t) (h2 : ∀ l ∈ rd, s'.2 l = s.2 l) : OpR P G g c s' av us rd := by
  have hw : wantV s'.1 c.guard = wantV s.1 c.guard := by
    unfold COper.looks at h1
    cases hg : c.guard with
    | none => rfl
    | some q =>
      obtain ⟨t, b⟩ := q
      rw [hg] at h1
      simp only [wantV]
      rw [h1 t (List.mem_append_right _ (by simp))]
  have he : evs G s'.1 c.xs = evs G s.1 c.xs := evs_local fun t ht => h1 t (List.mem_append_left _ ht)
  rcases h with ⟨k1, k2⟩ | ⟨k1, vals, k2, k3⟩
  · exact .inl ⟨hw.trans k1, k2⟩
  · exact .inr ⟨hw.trans k1, vals, he.trans k2, OpE_local k3 h2⟩

/-- Two operations' slots are apart. -/
def slotsApart (x y : COper) : Prop := (∀ d, x.dst = some d → d ∉ y.looks ∧ y.dst ≠ some d) ∧ (∀ d, y.dst = some d → d ∉ x.looks)

/-- Two operations' memory is apart. -/
def memApart (x y : List Nat × List Nat) : Prop := (∀ l ∈ x.2, l ∉ y.1 ∧ l ∉ y.2) ∧ (∀ l ∈ y.2, l ∉ x.1)

theorem ups_comm : ∀ (us vs : List (Nat × Option Loc)) (m : Nat → Option Loc), (∀ l ∈ us.map (·.1), l ∉ vs.map (·.1)) → ups (ups m us) vs = ups (ups m vs) us := by
  intro us vs m h
  funext l
  by_cases hu : l ∈ us.map (·.1)
  · rw [ups_other vs _ (h l hu)]
    have key : ∀ (us : List (Nat × Option Loc)) (m m' : Nat → Option Loc), m l = m' l → ups m us l = ups m' us l := by
      intro us
      induction us with
      | nil => intro m m' e; exact e
      | cons p us ih =>
        intro m m' e
        obtain ⟨k, c⟩ := p
        simp only [ups]
        refine ih _ _ ?_
        by_cases hk : l = k
        · subst hk; simp
        · simp [upd_other _ _ hk, e]
    exact key us _ _ (ups_other vs m (h l hu)).symm
  · rw [ups_other us _ hu]
    have key : ∀ (vs : List (Nat × Option Loc)) (m m' : Nat → Option Loc), m l = m' l → ups m vs l = ups m' vs l := by
      intro us
      induction us with
      | nil => intro m m' e; exact e
      | cons p us ih =>
        intro m m' e
        obtain ⟨k, c⟩ := p
        simp only [ups]
        refine ih _ _ ?_
        by_cases hk : l = k
        · subst hk; simp
        · simp [upd_other _ _ hk, e]
    exact key vs _ _ (ups_other us m hu)

theorem setd_other {fr : Nat → Option AV} {dst : Option Nat} {av : AV} {t : Nat} (h : dst ≠ some t) : setd fr dst av t = fr t := by
  cases dst with
  | none => rfl
  | some d => simp only [setd]; exact upd_other _ _ (fun e => h (by rw [e]))

theorem after_comm {x y : COper} {s : AS} {a b : AV} {us vs : List (Nat × Option Loc)} (hd : ∀ d, x.dst = some d → y.dst ≠ some d) (hu : ∀ l ∈ us.map (·.1), l ∉ vs.map (·.1)) :
    (s.after x a us).after y b vs = (s.after y b vs).after x a us := by
  unfold AS.after
  simp only
  rw [ups_comm us vs s.2 hu]
  congr 1
  funext t
  cases hx : x.dst with
  | none => rfl
  | some d =>
    cases hy : y.dst with
    | none => rfl
    | some e =>
      have hne : d ≠ e := fun h => hd d hx (by rw [hy, h])
      simp only [setd, upd]
      by_cases h1 : t = d <;> by_cases h2 : t = e <;> simp_all

/-- Two neighbours change places. -/
theorem RunL_swap {clk i j : Nat} {x y : COper} {r : List (Nat × COper)} {s s' : AS} {a b : List Nat × List Nat} {lg : Log} (h : RunL P G clk ((i, x) :: (j, y) :: r) s ((i, a) :: (j, b) :: lg) s') (hs : slotsApart x y) (hm : memApart a b) :
    RunL P G clk ((j, y) :: (i, x) :: r) s ((j, b) :: (i, a) :: lg) s' := by
  obtain ⟨av, us, rd, lg1, h1, e1, av2, us2, rd2, lg2, h2, e2, h3⟩ := h
  simp only [List.cons.injEq, Prod.mk.injEq, true_and] at e1
  obtain ⟨rfl, rfl⟩ := e1
  simp only [List.cons.injEq, Prod.mk.injEq, true_and] at e2
  obtain ⟨rfl, rfl⟩ := e2
  have hy : OpR P G (clk + j) y s av2 us2 rd2 := OpR_local h2 (fun t ht => by
      unfold AS.after
      refine (setd_other (fun e => ?_)).symm
      exact (hs.1 t e).1 ht) (fun l hl => (ups_other us s.2 (fun hmem => (hm.1 l hmem).1 hl)).symm)
  have hx : OpR P G (clk + i) x (s.after y av2 us2) av us rd := OpR_local h1 (fun t ht => by
      unfold AS.after
      refine setd_other (fun e => ?_)
      exact hs.2 t e ht) (fun l hl => ups_other us2 s.2 (fun hmem => hm.2 l hmem hl))
  refine ⟨av2, us2, rd2, _, hy, rfl, av, us, rd, _, hx, rfl, ?_⟩
  rw [← after_comm (fun d hd => (hs.1 d hd).2) (fun l hl => (hm.1 l hl).2)]
  exact h3

/-- One that is apart from all ahead of it comes first. -/
theorem RunL_front {clk i : Nat} {x : COper} {r : List (Nat × COper)} : ∀ {A : List (Nat × COper)} {s s' : AS} {lg : Log}, RunL P G clk (A ++ (i, x) :: r) s lg s' →
    (∀ a ∈ A, slotsApart a.2 x ∧ ∀ ea ∈ lg, ∀ ex ∈ lg, ea.1 = a.1 → ex.1 = i → memApart ea.2 ex.2) →
    ∃ ex lg', RunL P G clk ((i, x) :: (A ++ r)) s ((i, ex) :: lg') s' ∧ (i, ex) ∈ lg ∧ ∀ e ∈ lg', e ∈ lg
  | [], s, s', lg, h, _ => by
    obtain ⟨av, us, rd, lg1, h1, rfl, h3⟩ := h
    exact ⟨_, lg1, ⟨av, us, rd, lg1, h1, rfl, h3⟩, List.mem_cons_self, fun e he => List.mem_cons_of_mem _ he⟩
  | (j, y) :: A, s, s', lg, h, hap => by
    obtain ⟨av, us, rd, lg1, h1, rfl, h3⟩ := h
    obtain ⟨ex, lg', k1, k2, k3⟩ := RunL_front (A := A) h3 (fun a ha => ⟨(hap a (List.mem_cons_of_mem _ ha)).1, fun ea hea e2 he2 q1 q2 => (hap a (List.mem_cons_of_mem _ ha)).2 ea (List.mem_cons_of_mem _ hea) e2 (List.mem_cons_of_mem _ he2) q1 q2⟩)
    obtain ⟨hsl, hme⟩ := hap (j, y) List.mem_cons_self
    have hm := hme (j, rd, us.map (·.1)) List.mem_cons_self (i, ex) (List.mem_cons_of_mem _ k2) rfl rfl
    refine ⟨ex, (j, rd, us.map (·.1)) :: lg', RunL_swap ⟨av, us, rd, _, h1, rfl, k1⟩ hsl hm, List.mem_cons_of_mem _ k2, fun e he => ?_⟩
    rcases List.mem_cons.1 he with rfl | he
    · exact List.mem_cons_self
    · exact List.mem_cons_of_mem _ (k3 e he)

end
end Go.Proofs.YtngemgmnpcaamaaDoor.WL
