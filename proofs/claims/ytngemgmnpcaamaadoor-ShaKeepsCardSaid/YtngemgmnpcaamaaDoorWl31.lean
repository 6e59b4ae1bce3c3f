/-
  WHAT THE WALK MAY DO BETWEEN OPERATIONS: a row that is never turned again becomes memory that stays.
  And the shapes of a law's arguments.
-/
import Derived.Test.YtngemgmnpcaamaaDoorWl30
namespace Go.Proofs.YtngemgmnpcaamaaDoor.WL
open Go

mutual
/-- The row's elements in the place of each reference to it. -/
def frzA (l g sz : Nat) (xs : List AV) : AV → AV
  | .row l' sz' g' off n => if l' = l ∧ sz' = sz ∧ g' = g ∧ off + n ≤ xs.length then .sl sz ((xs.drop off).take n) else .row l' sz' g' off n
  | .node cs => .node (frzs l g sz xs cs)
  | .arr s cs => .arr s (frzs l g sz xs cs)
  | a => a
def frzs (l g sz : Nat) (xs : List AV) : List AV → List AV
  | [] => []
  | a :: as => frzA l g sz xs a :: frzs l g sz xs as
end

theorem frzs_length (l g sz : Nat) (xs : List AV) : ∀ as : List AV, (frzs l g sz xs as).length = as.length
  | [] => rfl
  | a :: as => by simp [frzs, frzs_length l g sz xs as]

mutual
theorem frzA_closed (l g sz : Nat) (xs : List AV) : ∀ a : AV, closed a = true → frzA l g sz xs a = a
  | .top, _ => rfl
  | .v _, _ => rfl
  | .node as, h => by simp only [closed] at h; simp only [frzA, frzs_closed l g sz xs as h]
  | .arr _ as, h => by simp only [closed] at h; simp only [frzA, frzs_closed l g sz xs as h]
  | .sl .., _ => rfl
  | .iptr _, _ => rfl
  | .ptr .., h => by simp [closed] at h
  | .row .., h => by simp [closed] at h
  | .vrow .., h => by simp [closed] at h
  | .rptr .., h => by simp [closed] at h
  | .tup _, h => by simp [closed] at h
theorem frzs_closed (l g sz : Nat) (xs : List AV) : ∀ as : List AV, closeds as = true → frzs l g sz xs as = as
  | [], _ => rfl
  | a :: as, h => by
    simp only [closeds, Bool.and_eq_true] at h
    simp only [frzs, frzA_closed l g sz xs a h.1, frzs_closed l g sz xs as h.2]
end
theorem frzs_append (l g sz : Nat) (xs : List AV) : ∀ as bs : List AV, frzs l g sz xs (as ++ bs) = frzs l g sz xs as ++ frzs l g sz xs bs
  | [], _ => rfl
  | a :: as, bs => by simp [frzs, frzs_append l g sz xs as bs]

def frzLoc (l g sz : Nat) (xs : List AV) : Loc → Loc
  | .var g' c => .var g' (frzA l g sz xs c)
  | .rows g' s cs => .rows g' s (frzs l g sz xs cs)
def frzM (l g sz : Nat) (xs : List AV) : List (Nat × Loc) → List (Nat × Loc)
  | [] => []
  | (k, c) :: r => if k = l then frzM l g sz xs r else (k, frzLoc l g sz xs c) :: frzM l g sz xs r
def frzF (l g sz : Nat) (xs : List AV) : List (Nat × AV) → List (Nat × AV)
  | [] => []
  | (k, a) :: r => (k, frzA l g sz xs a) :: frzF l g sz xs r

section
variable {w0 : World} {Ws I0 : Nat → Prop} {C C' : Ctx} {l g sz : Nat} {xs : List AV}

/-- What freezing must keep. -/
structure Frz (C C' : Ctx) (l g sz : Nat) (xs : List AV) : Prop where
  le : C.Le C'
  sl : ∀ off n x, off + n ≤ xs.length → V C (.row l sz g off n) [x] → V C' (.sl sz ((xs.drop off).take n)) [x]

mutual
theorem V_frz (h : Frz C C' l g sz xs) : ∀ (a : AV) (cs : List Value), V C a cs → V C' (frzA l g sz xs a) cs
  | .row l' sz' g' off n, cs, k => by
    simp only [frzA]
    split
    · rename_i e
      obtain ⟨rfl, rfl, rfl, hle⟩ := e
      have k' := k
      simp only [V] at k'
      obtain ⟨ao, cap, rfl, _⟩ := k'
      exact h.sl off n _ hle k
    · exact V_mono h.le _ _ k
  | .node as, cs, k => by simp only [frzA, V] at *; exact Vs_frz h as cs k
  | .arr s as, cs, k => by simp only [frzA, V] at *; exact Es_frz h s as cs k
  | .top, _, k => V_mono h.le _ _ k
  | .v _, _, k => V_mono h.le _ _ k
  | .sl .., _, k => V_mono h.le _ _ k
  | .ptr .., _, k => V_mono h.le _ _ k
  | .vrow .., _, k => V_mono h.le _ _ k
  | .iptr _, _, k => V_mono h.le _ _ k
  | .rptr .., _, k => V_mono h.le _ _ k
  | .tup _, _, k => by simp [V] at k
theorem Vs_frz (h : Frz C C' l g sz xs) : ∀ (as : List AV) (cs : List Value), Vs C as cs → Vs C' (frzs l g sz xs as) cs
  | [], _, k => by simpa [Vs, frzs] using k
  | a :: as, cs, k => by
    simp only [Vs, frzs] at *
    obtain ⟨c1, c2, e, h1, h2⟩ := k
    exact ⟨c1, c2, e, V_frz h a c1 h1, Vs_frz h as c2 h2⟩
theorem Es_frz (h : Frz C C' l g sz xs) (s : Nat) : ∀ (as : List AV) (cs : List Value), Es C s as cs → Es C' s (frzs l g sz xs as) cs
  | [], _, k => by simpa [Es, frzs] using k
  | a :: as, cs, k => by
    simp only [Es, frzs] at *
    obtain ⟨c1, c2, e, hl, h1, h2⟩ := k
    exact ⟨c1, c2, e, hl, V_frz h a c1 h1, Es_frz h s as c2 h2⟩
end

theorem SV1_frz (h : Frz C C' l g sz xs) {a : AV} {x : Value} (k : SV1 C a x) : SV1 C' (frzA l g sz xs a) x := by
  cases a with
  | top => exact trivial
  | tup _ => exact k.elim
  | node as => obtain ⟨cs, e, h1⟩ := k; exact ⟨cs, e, V_frz h _ _ h1⟩
  | arr s as => obtain ⟨cs, e, h1⟩ := k; exact ⟨cs, e, V_frz h _ _ h1⟩
  | row l' sz' g' off n =>
    have h1 := V_frz h _ _ (show V C (.row l' sz' g' off n) [x] from k)
    simp only [frzA] at h1 ⊢
    split at h1
    · rename_i e; rw [if_pos e]; exact h1
    · rename_i e; rw [if_neg e]; exact h1
  | v _ => exact V_frz h _ _ (show V C _ [x] from k)
  | sl _ _ => exact V_frz h _ _ (show V C _ [x] from k)
  | ptr _ _ _ => exact V_frz h _ _ (show V C _ [x] from k)
  | vrow _ _ _ _ _ _ => exact V_frz h _ _ (show V C _ [x] from k)
  | iptr _ => exact V_frz h _ _ (show V C _ [x] from k)
  | rptr _ _ _ _ _ => exact V_frz h _ _ (show V C _ [x] from k)

theorem frzA_isTup (l g sz : Nat) (xs : List AV) (a : AV) : (∀ as, a ≠ .tup as) → ∀ as, frzA l g sz xs a ≠ .tup as := by
  intro h as e
  cases a with
  | row l' sz' g' off n => simp only [frzA] at e; split at e <;> cases e
  | tup as => exact h _ rfl
  | _ => simp [frzA] at e

theorem SV_frz (h : Frz C C' l g sz xs) {a : AV} {x : Value} (k : SV C a x) : SV C' (frzA l g sz xs a) x := by
  cases a with
  | tup as => exact k.mono h.le
  | row l' sz' g' off n => exact SV_of1 (SV1_frz h (show SV1 C _ x from k))
  | top => exact SV_of1 (SV1_frz h (show SV1 C .top x from k))
  | node as => exact SV_of1 (SV1_frz h (show SV1 C (.node as) x from k))
  | arr s as => exact SV_of1 (SV1_frz h (show SV1 C (.arr s as) x from k))
  | v y => exact SV_of1 (SV1_frz h (show SV1 C (.v y) x from k))
  | sl a b => exact SV_of1 (SV1_frz h (show SV1 C (.sl a b) x from k))
  | ptr a b c => exact SV_of1 (SV1_frz h (show SV1 C (.ptr a b c) x from k))
  | vrow a b c d e f => exact SV_of1 (SV1_frz h (show SV1 C (.vrow a b c d e f) x from k))
  | iptr y => exact SV_of1 (SV1_frz h (show SV1 C (.iptr y) x from k))
  | rptr a b c d e => exact SV_of1 (SV1_frz h (show SV1 C (.rptr a b c d e) x from k))

theorem LocOk_frz (h : Frz C C' l g sz xs) {k : Nat} {c : Loc} (hk : LocOk C k c) (hb : C'.blk k = C.blk k) (hw : ∀ b, C.blk k = some b → C'.w.heap[b]? = C.w.heap[b]?) : LocOk C' k (frzLoc l g sz xs c) := by
  cases c with
  | var g' x =>
    obtain ⟨b, cur, T, h1, h2, h3⟩ := hk
    exact ⟨b, cur, T, hb.trans h1, (hw b h1).trans h2, V_frz h _ _ h3⟩
  | rows g' s ys =>
    rcases hk with ⟨h1, h2⟩ | ⟨b, cur, T, cap, h1, h2, h3, h4, h5, h6⟩
    · exact .inl ⟨hb.trans h1, by rw [h2]; rfl⟩
    · refine .inr ⟨b, cur, T, cap, hb.trans h1, (hw b h1).trans h2, h3, h4, by rw [frzs_length]; exact h5, ?_⟩
      rw [frzs_length]
      exact Es_frz h _ _ _ h6

theorem frzLoc_same (c : Loc) : Loc.same c (frzLoc l g sz xs c) := by cases c <;> simp [Loc.same, frzLoc]
theorem frzLoc_gen (c : Loc) : (frzLoc l g sz xs c).gen = c.gen := by cases c <;> rfl

/-- A location's row is frozen, all references to it are turned. -/
theorem WR.frz (hw : WR w0 Ws I0 C) (hm : C.m l = some (.rows g sz xs)) {m' : Nat → Option Loc} (hm' : ∀ k c', m' k = some c' → k ≠ l ∧ ∃ c, C.m k = some c ∧ c' = frzLoc l g sz xs c) :
    ∃ C', C'.w = C.w ∧ C'.m = m' ∧ C'.used = C.used ∧ Frz C C' l g sz xs ∧ WR w0 Ws I0 C' := by
  have hI : ∃ I' : Nat → Prop, C.Le { C with I := I', m := upd C.m l none } ∧ WR w0 Ws I0 { C with I := I', m := upd C.m l none } ∧ ∀ b, C.blk l = some b → I' b := by
    cases hb : C.blk l with
    | none =>
      obtain ⟨h1, h2⟩ := hw.gone l
      exact ⟨C.I, h1, h2, fun b e => by cases e⟩
    | some b =>
      obtain ⟨h1, h2⟩ := hw.freeze hm hb
      exact ⟨_, h1, h2, fun b' e => by obtain rfl := Option.some.inj e; exact .inr rfl⟩
  obtain ⟨I', hle, hwr, hIb⟩ := hI
  have hle2 : Ctx.Le { C with I := I', m := upd C.m l none } { C with I := I', m := m' } := by
    refine ⟨fun _ h => h, fun _ h => h, fun _ _ => rfl, fun k c' hc _ => ?_⟩
    obtain ⟨hk, c, h1, rfl⟩ := hm' k c' hc
    exact ⟨c, by simpa [upd_other _ _ hk] using h1, frzLoc_same c, rfl, fun b _ cur _ hcur => ⟨cur, hcur, rfl⟩⟩
  have hF : Frz C { C with I := I', m := m' } l g sz xs := by
    refine ⟨hle.trans hle2, fun off n x hon hv => ?_⟩
    have hsv : SV C (.row l sz g off n) x := SV_one hv rfl
    obtain ⟨ao, cap, news, rfl, h1, h2, h3, h4⟩ := src_ok hw (sz := sz) (xs := (xs.drop off).take n) hsv (by simp [srcA, hm, hon])
    simp only [V]
    refine ⟨ao, cap, news, rfl, h1, h2, Es_mono (hle.trans hle2) _ _ _ h3, h4.imp id ?_⟩
    rintro ⟨b, o, rfl, hc, hi⟩
    refine ⟨b, o, rfl, ?_, hc⟩
    rcases hi with hi | ⟨l', c, e1, e2, e3⟩
    · exact hle.I b hi
    · simp only [refOf, Option.some.injEq] at e1
      subst e1
      exact hIb b e3
  refine ⟨{ C with I := I', m := m' }, rfl, rfl, rfl, hF, ⟨fun k c' hc => ?_, fun l1 l2 c1 c2 b h1 h2 => ?_, fun k c' b hc hb => ?_, hwr.imm, hwr.imm0, fun k c' hc => ?_, hwr.os, hwr.tape, hwr.output, hwr.size, hwr.block⟩⟩
  · obtain ⟨hk, c, h1, rfl⟩ := hm' k c' hc
    exact LocOk_frz hF (hw.locs k c h1) rfl (fun _ _ => rfl)
  · obtain ⟨_, d1, k1, _⟩ := hm' l1 c1 h1
    obtain ⟨_, d2, k2, _⟩ := hm' l2 c2 h2
    exact hw.inj l1 l2 d1 d2 b k1 k2
  · obtain ⟨hk, c, h1, rfl⟩ := hm' k c' hc
    exact hwr.own k c b (by simpa [upd_other _ _ hk] using h1) hb
  · obtain ⟨hk, c, h1, rfl⟩ := hm' k c' hc
    rw [frzLoc_gen]
    exact hw.gens k c h1

theorem look_frzM : ∀ {m : List (Nat × Loc)} {k : Nat} {c' : Loc}, look (frzM l g sz xs m) k = some c' → k ≠ l ∧ ∃ c, look m k = some c ∧ c' = frzLoc l g sz xs c
  | [], _, _, h => by cases h
  | (j, c) :: r, k, c', h => by
    simp only [frzM] at h
    split at h
    · rename_i e
      obtain ⟨h1, c2, h2, h3⟩ := look_frzM h
      refine ⟨h1, c2, ?_, h3⟩
      simp only [look]
      have hne : j ≠ k := fun e2 => h1 (e2.symm.trans e)
      rw [if_neg hne]
      exact h2
    · rename_i e
      simp only [look] at h ⊢
      split at h
      · rename_i e2
        rw [if_pos e2]
        exact ⟨fun e3 => e (e2.trans e3), c, rfl, (Option.some.inj h).symm⟩
      · rename_i e2
        rw [if_neg e2]
        exact look_frzM h
theorem look_frzF : ∀ {fr : List (Nat × AV)} {k : Nat} {x : AV}, look (frzF l g sz xs fr) k = some x → ∃ a, look fr k = some a ∧ x = frzA l g sz xs a
  | [], _, _, h => by cases h
  | (j, a) :: r, k, x, h => by
    simp only [frzF, look] at h ⊢
    split at h
    · rename_i e; rw [if_pos e]; exact ⟨a, rfl, (Option.some.inj h).symm⟩
    · rename_i e; rw [if_neg e]; exact look_frzF h
end

/-- A ROW IS FROZEN. -/
theorem Weak.frz {fr : List (Nat × AV)} {m : List (Nat × Loc)} {c l g sz : Nat} {xs : List AV} (h : look m l = some (.rows g sz xs)) : Weak ⟨fr, m, c⟩ ⟨frzF l g sz xs fr, frzM l g sz xs m, c⟩ := by
  intro w0 Ws I0 G C0 N a w hr
  obtain ⟨h2, C, rfl, hm⟩ := hr
  have hmm : C.m = look m := hm.m
  obtain ⟨C', e1, e2, e3, hF, hw⟩ := hm.wr.frz (l := l) (g := g) (sz := sz) (xs := xs) (by rw [hmm]; exact h) (m' := look (frzM l g sz xs m)) (fun k c' hc => by rw [hmm]; exact look_frzM hc)
  refine ⟨h2, C', e1, hw, e2, fun t x hx => ?_, hm.gr.mono hF.le, hm.le.trans hF.le, hm.size, hm.defers, (fun i hi => by cases hi), fun k hk => hm.top k (e3 ▸ hk), fun h => hm.one (e3 ▸ h)⟩
  obtain ⟨y, h3, rfl⟩ := look_frzF hx
  obtain ⟨v, h4, h5⟩ := hm.fr t y h3
  exact ⟨v, h4, SV_frz hF h5⟩

/-! EVERYTHING UNDER NEW NAMES: the same memory told anew, all stamps the clock's. -/
def FitF (m : Nat → Option Loc) (L : Names) (fr : List (Nat × AV)) : List (Nat × AV) → Prop
  | [] => True
  | e :: r => (match look fr e.1 with | some raw => Fit m L raw e.2 | none => False) ∧ FitF m L fr r
def touchF (m : Nat → Option Loc) (fr : List (Nat × AV)) : List (Nat × AV) → List Nat
  | [] => []
  | e :: r => (match look fr e.1 with | some raw => touch m raw e.2 | none => []) ++ touchF m fr r
def pairsF (fr : List (Nat × AV)) : List (Nat × AV) → Names
  | [] => []
  | e :: r => (match look fr e.1 with | some raw => pairsA raw e.2 | none => []) ++ pairsF fr r
def StampedF (U : Nat → Prop) : List (Nat × AV) → Prop
  | [] => True
  | e :: r => Stamped U e.2 ∧ StampedF U r
def RecastC (m : Nat → Option Loc) (c : Nat) (fr fr' : List (Nat × AV)) (M : List (Nat × Loc)) (L : Names) : Prop :=
  FitF m L fr fr' ∧ StampedF (· = c) fr' ∧ FitM m L M ∧ StampedM (· = c) M ∧ (M.map (·.1)).Nodup ∧ (srcs L M).Nodup ∧ ∀ t ∈ touchF m fr fr' ++ touchM m L M, t ∉ srcs L M

theorem FitF_mem {m : Nat → Option Loc} {L : Names} {fr : List (Nat × AV)} : ∀ {fr' : List (Nat × AV)} {t : Nat} {x : AV}, FitF m L fr fr' → look fr' t = some x → ∃ raw, look fr t = some raw ∧ Fit m L raw x ∧ ∀ l ∈ touch m raw x, l ∈ touchF m fr fr'
  | [], _, _, _, h => by cases h
  | e :: r, t, x, hf, h => by
    obtain ⟨k, w⟩ := e
    simp only [look] at h
    split at h
    · rename_i e
      subst e
      obtain rfl := Option.some.inj h
      obtain ⟨h1, _⟩ := hf
      simp only at h1
      split at h1
      · rename_i raw hr
        refine ⟨raw, hr, h1, fun l hl => ?_⟩
        simp only [touchF, hr]
        exact List.mem_append_left _ hl
      · exact h1.elim
    · obtain ⟨raw, h1, h2, h3⟩ := FitF_mem hf.2 h
      exact ⟨raw, h1, h2, fun l hl => List.mem_append_right _ (h3 l hl)⟩
theorem StampedF_mem {U : Nat → Prop} : ∀ {fr' : List (Nat × AV)} {t : Nat} {x : AV}, StampedF U fr' → look fr' t = some x → Stamped U x
  | [], _, _, _, h => by cases h
  | e :: r, t, x, hf, h => by
    obtain ⟨k, w⟩ := e
    simp only [look] at h
    split at h
    · obtain rfl := Option.some.inj h; exact hf.1
    · exact StampedF_mem hf.2 h
theorem stampedLoc_mono {U U' : Nat → Prop} (h : ∀ g, U g → U' g) (c : Loc) (k : StampedLoc U c) : StampedLoc U' c := by
  cases c with
  | var g w => exact ⟨h _ k.1, stamped_mono h _ k.2⟩
  | rows g sz ws => exact ⟨h _ k.1, stampedL_mono h _ k.2⟩
theorem stampedLoc_gen {c : Nat} {x : Loc} (k : StampedLoc (· = c) x) : x.gen = c := by cases x <;> exact k.1

/-- THE STATE IS TOLD ANEW. -/
theorem Weak.recast {fr fr' : List (Nat × AV)} {m M : List (Nat × Loc)} {c : Nat} {L : Names} (h : RecastC (look m) c fr fr' M L) : Weak ⟨fr, m, c⟩ ⟨fr', M, c + 1⟩ := by
  obtain ⟨h1, h2, h3, h4, h5, h6, h7⟩ := h
  intro w0 Ws I0 G C0 N a w hr
  obtain ⟨hc, C, rfl, hm⟩ := hr
  have hmm : C.m = look m := hm.m
  have htop : ∀ k, C.used k → k < c := hm.top
  have hc2 : 2 ≤ c := hc
  let T := touchF (look m) fr fr' ++ touchM (look m) L M
  let U : Nat → Prop := fun g => C.used g ∨ g = c
  have hnamed : Named C.m L M T U := by
    rw [hmm]
    exact ⟨h5, fun e he => FitM_mem h3 he, fun e he t ht => List.mem_append_right _ (touchM_mem he ht), h6, h7, fun e he => stampedLoc_mono (fun g hg => .inr hg) _ (StampedM_mem h4 he)⟩
  have hseen := hnamed.seen
  have hwr : WR w0 Ws I0 (reCtx C L M T U) :=
    hnamed.wr hm.wr (fun k hk => .inl (hm.wr.imm0 k hk)) (fun l cc b _ hcl hb => (hm.wr.own l cc b hcl hb).2.2) (fun k hk => by
      rcases hk with hk | ⟨t, _, ct, hct, hbt⟩
      · exact (hm.wr.imm k hk).2
      · exact .inr (hm.wr.own t ct k hct hbt).2.2) hm.wr.os hm.wr.tape hm.wr.output hm.wr.size hm.wr.block
  have hle : C.Le (reCtx C L M T U) := by
    refine ⟨fun g hg => .inl hg, fun k hk => .inl hk, fun _ _ => rfl, fun l c' hl hu => ?_⟩
    have hg := stampedLoc_gen (StampedM_mem h4 (look_mem hl))
    simp only at hg
    rw [hg] at hu
    have := htop _ hu
    omega
  refine ⟨Nat.le_succ_of_le hc2, reCtx C L M T U, rfl, hwr, rfl, fun t x hx => ?_, hm.gr.mono hle, hm.le.trans hle, hm.size, hm.defers, (fun i hi => by cases hi), fun k hk => ?_, fun hk => ?_⟩
  · obtain ⟨raw, k1, k2, k3⟩ := FitF_mem h1 hx
    obtain ⟨v, k4, k5⟩ := hm.fr t raw k1
    refine ⟨v, k4, SV_fit hm.wr hseen (by rw [hmm]; exact k2) (fun l hl => List.mem_append_left _ (k3 l (by rw [← hmm]; exact hl))) (stamped_mono (fun g hg => .inr hg) _ (StampedF_mem h2 hx)) k5⟩
  · rcases hk with hk | rfl
    · exact Nat.lt_succ_of_lt (htop k hk)
    · exact Nat.lt_succ_self _
  · rcases hk with hk | hk
    · exact hm.one hk
    · omega

theorem Weak.re {fr fr' : List (Nat × AV)} {m M : List (Nat × Loc)} {c : Nat} (h : RecastC (look m) c fr fr' M (inner (look m) (pairsF fr fr') M)) : Weak ⟨fr, m, c⟩ ⟨fr', M, c + 1⟩ := Weak.recast h
theorem Nxt.re {α : Type} {inv : Nat → α → Prop} {st : Nat → α → Nat → SA} {j : Nat} {fr fr' : List (Nat × AV)} {m M : List (Nat × Loc)} {c : Nat} (a : α) (hi : inv j a) (e : st j a c = ⟨fr', M, c + 1⟩) (h : RecastC (look m) c fr fr' M (inner (look m) (pairsF fr fr') M)) : Nxt inv st j ⟨fr, m, c⟩ :=
  ⟨a, c, e ▸ Weak.re h, hi⟩
/-- The same, where variables that came in keep their names and stamps. -/
def RecastC0 (m : List (Nat × Loc)) (c : Nat) (fr fr' : List (Nat × AV)) (M : List (Nat × Loc)) (L : Names) : Prop :=
  FitF (look m) L fr fr' ∧ StampedF (fun g => g = c ∨ g = 0) fr' ∧ FitM (look m) L M ∧ StampedM (fun g => g = c ∨ g = 0) M ∧ (M.map (·.1)).Nodup ∧ (srcs L M).Nodup ∧ (∀ t ∈ touchF (look m) fr fr' ++ touchM (look m) L M, t ∉ srcs L M) ∧ oldE L M ∧ ∃ k, isVar0 (look m k) = true

theorem Weak.recast0 {fr fr' : List (Nat × AV)} {m M : List (Nat × Loc)} {c : Nat} {L : Names} (h : RecastC0 m c fr fr' M L) : Weak ⟨fr, m, c⟩ ⟨fr', M, c + 1⟩ := by
  obtain ⟨h1, h2, h3, h4, h5, h6, h7, h8, k0, hk0⟩ := h
  intro w0 Ws I0 G C0 N a w hr
  obtain ⟨hc, C, rfl, hm⟩ := hr
  have hmm : C.m = look m := hm.m
  have htop : ∀ k, C.used k → k < c := hm.top
  have hc2 : 2 ≤ c := hc
  have hu0 : C.used 0 := by
    unfold isVar0 at hk0
    split at hk0
    · rename_i x hx
      have := hm.wr.gens k0 _ (by rw [hmm]; exact hx)
      simpa [Loc.gen] using this
    · cases hk0
  let T := touchF (look m) fr fr' ++ touchM (look m) L M
  let U : Nat → Prop := fun g => C.used g ∨ g = c
  have hU : ∀ g, g = c ∨ g = 0 → U g := fun g hg => by
    rcases hg with rfl | rfl
    · exact .inr rfl
    · exact .inl hu0
  have hnamed : Named C.m L M T U := by
    rw [hmm]
    exact ⟨h5, fun e he => FitM_mem h3 he, fun e he t ht => List.mem_append_right _ (touchM_mem he ht), h6, h7, fun e he => stampedLoc_mono hU _ (StampedM_mem h4 he)⟩
  have hseen := hnamed.seen
  have hwr : WR w0 Ws I0 (reCtx C L M T U) :=
    hnamed.wr hm.wr (fun k hk => .inl (hm.wr.imm0 k hk)) (fun l cc b _ hcl hb => (hm.wr.own l cc b hcl hb).2.2) (fun k hk => by
      rcases hk with hk | ⟨t, _, ct, hct, hbt⟩
      · exact (hm.wr.imm k hk).2
      · exact .inr (hm.wr.own t ct k hct hbt).2.2) hm.wr.os hm.wr.tape hm.wr.output hm.wr.size hm.wr.block
  have hle : C.Le (reCtx C L M T U) := by
    refine ⟨fun g hg => .inl hg, fun k hk => .inl hk, fun _ _ => rfl, fun l c' hl hu => ?_⟩
    have hmem := look_mem hl
    have hg : c'.gen = c ∨ c'.gen = 0 := by
      have := StampedM_mem h4 hmem
      cases c' <;> exact this.1
    rcases hg with hg | hg
    · rw [hg] at hu
      have := htop _ hu
      omega
    · have ho := oldE_mem h8 hmem hg
      simp only at ho
      have hf := hnamed.fit _ hmem
      have hsrc : src L l = some l := by simp [src, ho]
      cases c' with
      | var g w =>
        obtain ⟨l2, g2, raw, e1, e2, _⟩ := hf
        simp only at e1
        rw [ho] at e1
        obtain ⟨rfl, rfl⟩ := (by simpa using e1 : l = l2 ∧ 0 = g2)
        simp only [Loc.gen] at hg
        subst hg
        exact ⟨_, e2, rfl, by simp [reCtx, ho], fun b _ cur _ hcur => ⟨cur, hcur, rfl⟩⟩
      | rows g sz ws =>
        simp only [Loc.gen] at hg
        subst hg
        rcases hf with ⟨l2, g2, xs, e1, e2, _⟩ | ⟨e1, _⟩
        · simp only at e1
          rw [ho] at e1
          obtain ⟨rfl, rfl⟩ := (by simpa using e1 : l = l2 ∧ 0 = g2)
          exact ⟨_, e2, ⟨rfl, rfl⟩, by simp [reCtx, ho], fun b _ cur _ hcur => ⟨cur, hcur, rfl⟩⟩
        · simp only at e1
          rw [ho] at e1
          simp at e1
  refine ⟨Nat.le_succ_of_le hc2, reCtx C L M T U, rfl, hwr, rfl, fun t x hx => ?_, hm.gr.mono hle, hm.le.trans hle, hm.size, hm.defers, (fun i hi => by cases hi), fun k hk => ?_, fun hk => ?_⟩
  · obtain ⟨raw, k1, k2, k3⟩ := FitF_mem h1 hx
    obtain ⟨v, k4, k5⟩ := hm.fr t raw k1
    refine ⟨v, k4, SV_fit hm.wr hseen (by rw [hmm]; exact k2) (fun l hl => List.mem_append_left _ (k3 l (by rw [← hmm]; exact hl))) (stamped_mono hU _ (StampedF_mem h2 hx)) k5⟩
  · rcases hk with hk | rfl
    · exact Nat.lt_succ_of_lt (htop k hk)
    · exact Nat.lt_succ_self _
  · rcases hk with hk | hk
    · exact hm.one hk
    · omega
theorem Weak.re0 (k : Nat) {fr fr' : List (Nat × AV)} {m M : List (Nat × Loc)} {c : Nat}
    (h : (let L := inner (look m) (pairsF fr fr') M; FitF (look m) L fr fr' ∧ StampedF (fun g => g = c ∨ g = 0) fr' ∧ FitM (look m) L M ∧ StampedM (fun g => g = c ∨ g = 0) M ∧ (M.map (·.1)).Nodup ∧ (srcs L M).Nodup ∧ (∀ t ∈ touchF (look m) fr fr' ++ touchM (look m) L M, t ∉ srcs L M) ∧ oldE L M ∧ isVar0 (look m k) = true)) : Weak ⟨fr, m, c⟩ ⟨fr', M, c + 1⟩ := by
  obtain ⟨h1, h2, h3, h4, h5, h6, h7, h8, h9⟩ := h
  exact Weak.recast0 ⟨h1, h2, h3, h4, h5, h6, h7, h8, k, h9⟩
attribute [simp] FitF touchF pairsF StampedF RecastC

/-- A loop whose measure falls. -/
def Dec {α : Type} (inv : Nat → α → Prop) (st : Nat → α → Nat → SA) (m : Nat) (S : SA) : Prop := ∃ m' a c, m' < m ∧ Weak S (st m' a c) ∧ inv m' a
theorem go_dec {P : Program} {G : Nat → Option AV} {Q : Exit → SA → Prop} {c : CCode} {k : List Kont} {S : SA} {α : Type} (m0 : Nat) (inv : Nat → α → Prop) (st : Nat → α → Nat → SA) (a0 : α) (c0 : Nat) (hw : Weak S (st m0 a0 c0)) (h0 : inv m0 a0)
    (h : ∀ m a c', inv m a → go P G (thenA (Dec inv st m) (unK P G Q k)) c [] (st m a c')) : go P G Q (.loop c) k S := by
  refine ⟨fun n S => ∃ a c, inv n a ∧ S = st n a c, ⟨m0, _, hw, a0, c0, h0, rfl⟩, ?_⟩
  rintro n S' ⟨a, c', hi, rfl⟩
  refine awp_mono (h n a c' hi) ?_
  rintro e S'' h1
  cases e <;> first | exact h1 | skip
  obtain ⟨m', a1, c1, h2, h3, h4⟩ := h1
  exact ⟨m', _, h3, ⟨a1, c1, h4, rfl⟩, h2⟩

attribute [simp] frzA frzs frzLoc frzM frzF

theorem buildE_any {sz : Nat} : ∀ (vals pre post : List AV), post.length = vals.length → allSz sz vals = true → buildE sz (pre ++ post) ((List.range' pre.length vals.length).zip vals) = some (pre ++ vals)
  | [], pre, [], _, _ => by simp [buildE]
  | x :: r, pre, z :: post, hl, h => by
    simp only [allSz, Bool.and_eq_true, beq_iff_eq] at h
    simp only [List.length_cons, Nat.add_right_cancel_iff] at hl
    simp only [List.length_cons, List.range'_succ, List.zip_cons_cons, buildE, List.length_append]
    rw [if_pos ⟨by omega, h.1.1, h.1.2⟩]
    have e : (pre ++ z :: post).set pre.length x = (pre ++ [x]) ++ post := by
      rw [List.set_append_right _ _ (Nat.le_refl _)]
      simp
    rw [e]
    have := buildE_any r (pre ++ [x]) post hl h.2
    rw [List.length_append, List.length_singleton] at this
    rw [this]
    simp
  | [], _, _ :: _, hl, _ => by simp at hl
  | _ :: _, _, [], hl, _ => by simp at hl
@[simp] theorem buildE_up {sz n : Nat} {zs vals : List AV} (h1 : zs.length = n) (h2 : vals.length = n) (h3 : allSz sz vals = true) : buildE sz zs ((upTo n).zip vals) = some vals := by
  subst h2
  have := buildE_any vals [] zs h1 h3
  simpa [upTo, List.range_eq_range'] using this
attribute [simp] allSz

/-! SHAPES. -/
inductive Ty where
  | bool
  | int (k : IntKind)
  | str
  | sl (sz bytes : Nat) (e : Ty)
  | st (fs : List Ty)
  | arr (n sz : Nat) (e : Ty)

mutual
def isTy (P : Program) : Ty → TypeId → Bool
  | .bool, t => isBoolT P t
  | .int k, t => isInt P t == some k
  | .str, t => isStr P t
  | .sl sz bytes e, t => match isSlice P t with
    | some e' => P.cellsOf e' == sz && P.bytesOf e' == bytes && isTy P e e'
    | none => false
  | .st fs, t => match isStruct P t with
    | some fields => isTys P fs (fields.toList.map (·.type))
    | none => false
  | .arr n sz e, t => match isArr P t with
    | some (n', e') => n' == n && P.cellsOf e' == sz && isTy P e e'
    | none => false
def isTys (P : Program) : List Ty → List TypeId → Bool
  | [], [] => true
  | a :: as, t :: ts => isTy P a t && isTys P as ts
  | _, _ => false
end

mutual
def TyOk : Ty → AV → Prop
  | .bool, a => ∃ b, a = .v (.bool b)
  | .int k, a => ∃ i, a = .v (.int k i) ∧ (Lit.int k i).wf = true
  | .str, a => ∃ s : ByteArray, a = .v (.string s) ∧ s.size ≤ reachBytes
  | .sl sz bytes e, a => ∃ xs, a = .sl sz xs ∧ (xs.length ≤ maxLen ∧ xs.length * bytes ≤ reachBytes) ∧ ∀ x ∈ xs, TyOk e x
  | .st fs, a => ∃ as, a = .node as ∧ TysOk fs as
  | .arr n sz e, a => ∃ xs, a = .arr sz xs ∧ xs.length = n ∧ ∀ x ∈ xs, TyOk e x
def TysOk : List Ty → List AV → Prop
  | [], [] => True
  | t :: ts, a :: as => TyOk t a ∧ TysOk ts as
  | _, _ => False
end

mutual
theorem ty_ok {P : Program} : ∀ (T : Ty) (n : Nat) (t : TypeId) (av : AV), isTy P T t = true → Typed P n t av → TyOk T av
  | T, 0, _, _, _, h => h.elim
  | .bool, n + 1, t, av, hT, h => by
    simp only [isTy] at hT
    simp only [Typed, isBoolT_eq hT] at h
    exact h
  | .int k, n + 1, t, av, hT, h => by
    simp only [isTy, beq_iff_eq] at hT
    simp only [Typed, isInt_eq hT] at h
    exact h
  | .str, n + 1, t, av, hT, h => by
    simp only [isTy] at hT
    simp only [Typed, isStr_eq hT] at h
    exact h
  | .sl sz bytes e, n + 1, t, av, hT, h => by
    simp only [isTy] at hT
    split at hT
    · rename_i e' he
      simp only [Bool.and_eq_true, beq_iff_eq] at hT
      obtain ⟨⟨rfl, rfl⟩, hT⟩ := hT
      simp only [Typed, isSlice_eq he] at h
      obtain ⟨xs, rfl, h1, h2⟩ := h
      exact ⟨xs, rfl, h1, fun x hx => ty_ok e n e' x hT (h2 x hx)⟩
    · cases hT
  | .st fs, n + 1, t, av, hT, h => by
    simp only [isTy] at hT
    split at hT
    · rename_i fields he
      simp only [Typed, isStruct_eq he] at h
      obtain ⟨as, rfl, h1⟩ := h
      exact ⟨as, rfl, tys_ok fs n _ as hT (by
        revert h1
        generalize fields.toList = fl
        clear hT he
        induction fl generalizing as with
        | nil => intro h1; cases as <;> exact h1
        | cons f fl ih => intro h1; cases as with
          | nil => exact h1
          | cons a as => exact ⟨h1.1, ih as h1.2⟩)⟩
    · cases hT
  | .arr k sz e, n + 1, t, av, hT, h => by
    simp only [isTy] at hT
    split at hT
    · rename_i n' e' he
      simp only [Bool.and_eq_true, beq_iff_eq] at hT
      obtain ⟨⟨rfl, rfl⟩, hT⟩ := hT
      simp only [Typed, isArr_eq he] at h
      obtain ⟨xs, rfl, h1, h2⟩ := h
      exact ⟨xs, rfl, h1, fun x hx => ty_ok e n e' x hT (h2 x hx)⟩
    · cases hT
theorem tys_ok {P : Program} : ∀ (Ts : List Ty) (n : Nat) (ts : List TypeId) (avs : List AV), isTys P Ts ts = true → All2 (fun t a => Typed P n t a) ts avs → TysOk Ts avs
  | [], _, [], [], _, _ => trivial
  | T :: Ts, n, t :: ts, a :: as, hT, h => by
    simp only [isTys, Bool.and_eq_true] at hT
    exact ⟨ty_ok T n t a hT.1 h.1, tys_ok Ts n ts as hT.2 h.2⟩
  | [], _, [], _ :: _, _, h => h.elim
  | [], _, _ :: _, _, hT, _ => by simp [isTys] at hT
  | _ :: _, _, [], _, hT, _ => by simp [isTys] at hT
  | _ :: _, _, _ :: _, [], _, h => h.elim
end

theorem map_of_all {α : Type} {f : α → AV} {p : α → Prop} : ∀ {xs : List AV}, (∀ x ∈ xs, ∃ a, x = f a ∧ p a) → ∃ zs : List α, xs = zs.map f ∧ ∀ z ∈ zs, p z
  | [], _ => ⟨[], rfl, fun _ h => by cases h⟩
  | x :: xs, h => by
    obtain ⟨a, rfl, ha⟩ := h x List.mem_cons_self
    obtain ⟨zs, rfl, hz⟩ := map_of_all (xs := xs) fun y hy => h y (List.mem_cons_of_mem _ hy)
    refine ⟨a :: zs, rfl, fun z hzz => ?_⟩
    rcases List.mem_cons.1 hzz with rfl | hzz
    · exact ha
    · exact hz z hzz

end Go.Proofs.YtngemgmnpcaamaaDoor.WL
