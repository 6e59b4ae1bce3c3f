/-
  CALLS, last part: an operation's effect, calls among them.
-/
import Derived.Test.YtngemgmnpcaamaaDoorWl18
namespace Go.Proofs.YtngemgmnpcaamaaDoor.WL
open Go

theorem ups_append (m : Nat → Option Loc) : ∀ (us vs : List (Nat × Option Loc)), ups m (us ++ vs) = ups (ups m us) vs
  | [], _ => rfl
  | (_, _) :: us, vs => ups_append _ us vs

theorem ups_other : ∀ (us : List (Nat × Option Loc)) (m : Nat → Option Loc) {l : Nat}, l ∉ us.map (·.1) → ups m us l = m l
  | [], _, _, _ => rfl
  | (k, c) :: us, m, l, h => by
    simp only [List.map_cons, List.mem_cons, not_or] at h
    rw [ups, ups_other us _ h.2, upd_other _ _ h.1]

theorem ups_none : ∀ (ks : List Nat) (m : Nat → Option Loc) (l : Nat), ups m (ks.map fun k => (k, none)) l = if l ∈ ks then none else m l
  | [], _, _ => by simp [ups]
  | k :: ks, m, l => by
    simp only [List.map_cons, ups, ups_none ks, List.mem_cons]
    by_cases h : l ∈ ks
    · simp [h]
    · by_cases e : l = k
      · subst e; simp [h]
      · simp [h, e, upd_other _ _ e]

theorem ups_some : ∀ {N : List (Nat × Loc)} {m : Nat → Option Loc} {l : Nat} {c : Loc}, (N.map (·.1)).Nodup → (l, c) ∈ N → ups m (N.map fun e => (e.1, some e.2)) l = some c
  | [], _, _, _, _, h => by cases h
  | (k, c0) :: N, m, l, c, hn, h => by
    simp only [List.map_cons, List.nodup_cons] at hn
    simp only [List.map_cons, ups]
    rcases List.mem_cons.1 h with e | h
    · obtain ⟨rfl, rfl⟩ := (by simpa using e : l = k ∧ c = c0)
      rw [ups_other]
      · simp
      · simpa using hn.1
    · exact ups_some hn.2 h

theorem find_of_nodup {α : Type} {f : α → Nat} : ∀ {l : List α} {a : α}, (l.map f).Nodup → a ∈ l → l.find? (fun x => decide (f x = f a)) = some a
  | [], _, _, h => by cases h
  | x :: l, a, hn, h => by
    simp only [List.map_cons, List.nodup_cons] at hn
    rcases List.mem_cons.1 h with rfl | h
    · simp
    · have hne : f x ≠ f a := fun e => hn.1 (e ▸ List.mem_map_of_mem (f := f) h)
      rw [List.find?_cons_of_neg (by simpa using hne)]
      exact find_of_nodup hn.2 h

/-- The operation runs, and what comes behind it is met in the new context. -/
def Sim (P : Program) (w0 : World) (Ws I0 : Nat → Prop) (C : Ctx) (g : Nat) (o : Oper) (a : Act) (av : AV) (us : List (Nat × Option Loc)) : Prop :=
  ∀ (K : Act → World → Prop) (Q : Exit → Act → World → Prop), (∀ y C', SV C' av y → C.Le C' → WR w0 Ws I0 C' → C'.m = ups C.m us → (∀ k, C'.used k → C.used k ∨ k = g) → K (a.put o.dst y) C'.w) → o.wp P a C.w K Q

theorem Does.sim {P : Program} {w0 : World} {Ws I0 : Nat → Prop} {C : Ctx} {g : Nat} {o : Oper} {a : Act} {av : AV} {us : List (Nat × Option Loc)} (h : Does P w0 Ws I0 C g o a av us) : Sim P w0 Ws I0 C g o a av us := by
  intro K Q hK
  obtain ⟨nx, y, w', C', h1, h2, h3, rfl, h5, h6, h7, h8⟩ := h
  unfold Oper.wp
  rw [h1]
  rcases h2 with rfl | ⟨rfl, rfl⟩
  · exact hK y C' h3 h5 h6 h7 h8
  · exact hK undef C' h3 h5 h6 h7 h8

/-- A call, as the abstract machine sees it. -/
structure CallOk (P : Program) (G : Nat → Option AV) (f : Nat) (vals : List AV) (m : Nat → Option Loc) (g nb : Nat) (L : Names) (args : List AV) (M : List (Nat × Loc)) (keep : Bool) (res : AV) (M' : List (Nat × Loc)) (T : List Nat) : Prop where
  meets : Meets P G f args M keep res M'
  fit : FitL m L vals args
  lent : ∀ t ∈ touchL m vals args, t ∈ T
  st : StampedL (· = 0) args
  named : Named m L M T (· = 0)
  back : ((renM L nb g M').map (·.1)).Nodup
  old : ∀ e ∈ M', e.2.gen = 0 → ∃ w' q, look M e.1 = some (.var 0 w') ∧ look L e.1 = some (some q)

/-- What a call turns in the caller's memory. -/
def callUs (nb g : Nat) (L : Names) (M : List (Nat × Loc)) (keep : Bool) (M' : List (Nat × Loc)) (T : List Nat) : List (Nat × Option Loc) :=
  ((srcs L M).map fun k => (k, none)) ++ (((if keep = true then [] else T).map fun k => (k, none)) ++ (renM L nb g M').map fun e => (e.1, some e.2))

section
variable {P : Program} {w0 : World} {Ws I0 : Nat → Prop} {C : Ctx} {G : Nat → Option AV}

theorem sim_call (hw : WR w0 Ws I0 C) (hG : GR C G) {f g nb : Nat} {vals : List AV} {L : Names} {args : List AV} {M : List (Nat × Loc)} {keep : Bool} {res : AV} {M' : List (Nat × Loc)} {T : List Nat} (hnew : ¬ C.used g)
    (h : CallOk P G f vals C.m g nb L args M keep res M' T) {o : Oper} {a : Act} {xs : List COpd} (hc : chkOp P o.op xs (.call f) = true) (hs : SVl C vals ((match o.op with | .call c => c.args.toList | _ => []).map a.eval)) :
    Sim P w0 Ws I0 C g o a (renA L nb g res) (callUs nb g L M keep M' T) := by
  intro K Q hK
  -- the callee's context
  have hseen := h.named.seen
  have hwc : WR C.w (fun b => ∃ l ∈ srcs L M, ∃ c, C.m l = some c ∧ C.blk l = some b) (reCtx C L M T (· = 0)).I (reCtx C L M T (· = 0)) :=
    h.named.wr hw (fun _ h => h) (fun l c b h1 h2 h3 => .inl ⟨l, h1, c, h2, h3⟩) (fun _ h => .inl h) rfl rfl rfl (Nat.le_refl _) (fun _ _ _ => rfl)
  have hGc : GR (reCtx C L M T (· = 0)) G := fun n x hx => ⟨(hG n x hx).1, V_shift (fun j hj => ⟨hseen.I j hj, by rw [hseen.w]⟩) (.iptr x) _ (by simpa [closed] using (hG n x hx).1) (hG n x hx).2⟩
  have hargs := SVl_fit hw hseen h.fit h.lent h.st hs
  have hcall := h.meets.2 (reCtx C L M T (· = 0)) _ _ hwc rfl (fun _ => Iff.rfl) hGc hargs
  -- the operation is a call
  obtain ⟨dst, op, type, pos, after, guard⟩ := o
  simp only [chkOp] at hc
  split at hc <;> first | (cases hc; done) | skip
  rename_i f0 cargs cat
  simp only [Bool.and_eq_true, beq_iff_eq] at hc
  obtain ⟨⟨rfl, hgo⟩, hc⟩ := hc
  unfold Oper.wp
  have hrun : (execOp a.eval { dst := dst, op := .call { callee := .value (.func f0), args := cargs, argTypes := cat }, type := type, pos := pos, after := after, guard := guard }).run P C.w = .ok (.enter f0 (cargs.map a.eval)) C.w := by
    have e : execOp a.eval { dst := dst, op := .call { callee := .value (.func f0), args := cargs, argTypes := cat }, type := type, pos := pos, after := after, guard := guard } = callFunc f0 (#[] ++ cargs.map a.eval ++ #[]) := rfl
    rw [e, run_isGo hgo]
    simp
  rw [hrun, Oper.upon_enter]
  have hae : (cargs.toList.map a.eval).toArray = cargs.map a.eval := by apply Array.ext'; simp
  simp only at hcall
  rw [hae] at hcall
  refine Calls.mono hcall ?_
  rintro e w'' ⟨y, C1, rfl, rfl, hle1, hw1, hm1, hv1⟩
  -- the caller's context behind it
  obtain ⟨⟨hgM, hgr, hnd⟩, _⟩ := h.meets
  let fk : Nat × Loc → Nat := fun e => (kap L nb g e.1 e.2.gen).1
  have hbk : (M'.map fk).Nodup := by
    have := h.back
    simpa [renM, List.map_map, Function.comp_def] using this
  let C' : Ctx := ⟨C1.w, fun k => (keep = true ∧ C.I k) ∨ (keep = false ∧ C1.I k), fun l => match M'.find? (fun e => decide (fk e = l)) with | some e => C1.blk e.1 | none => C.blk l,
    ups C.m (callUs nb g L M keep M' T), fun k => C.used k ∨ k = g⟩
  have hin : ∀ e ∈ M', C'.m (fk e) = some (renLoc L nb g e.1 e.2) ∧ C'.blk (fk e) = C1.blk e.1 := by
    intro e he
    constructor
    · show ups C.m (callUs nb g L M keep M' T) (fk e) = _
      unfold callUs
      rw [ups_append, ups_append]
      exact ups_some h.back (List.mem_map.2 ⟨e, he, rfl⟩)
    · show (match M'.find? (fun x => decide (fk x = fk e)) with | some e => C1.blk e.1 | none => C.blk (fk e)) = _
      rw [find_of_nodup hbk he]
  have hout : ∀ l, (∀ e ∈ M', fk e ≠ l) → C'.blk l = C.blk l ∧ ∀ c, C'.m l = some c → C.m l = some c ∧ l ∉ srcs L M ∧ (keep = false → l ∉ T) := by
    intro l hl
    have hnf : M'.find? (fun e => decide (fk e = l)) = none := by
      rw [List.find?_eq_none]
      intro e he
      simpa using hl e he
    constructor
    · show (match M'.find? (fun e => decide (fk e = l)) with | some e => C1.blk e.1 | none => C.blk l) = _
      rw [hnf]
    · intro c hc
      have hc' : ups C.m (callUs nb g L M keep M' T) l = some c := hc
      unfold callUs at hc'
      rw [ups_append, ups_append, ups_other _ _ (by
        simp only [List.map_map, renM]
        intro hmem
        obtain ⟨e, he, e2⟩ := List.mem_map.1 hmem
        exact hl e he e2), ups_none, ups_none] at hc'
      by_cases h1 : l ∈ (if keep = true then [] else T)
      · rw [if_pos h1] at hc'; cases hc'
      · rw [if_neg h1] at hc'
        by_cases h2 : l ∈ srcs L M
        · rw [if_pos h2] at hc'; cases hc'
        · rw [if_neg h2] at hc'
          exact ⟨hc', h2, fun hk => by simpa [hk] using h1⟩
  have hcase : ∀ l c, C'.m l = some c → (∃ e ∈ M', l = fk e ∧ c = renLoc L nb g e.1 e.2) ∨ ((∀ e ∈ M', fk e ≠ l) ∧ C.m l = some c ∧ l ∉ srcs L M ∧ (keep = false → l ∉ T)) := by
    intro l c hc
    by_cases hex : ∃ e ∈ M', fk e = l
    · obtain ⟨e, he, rfl⟩ := hex
      left
      rw [(hin e he).1] at hc
      exact ⟨e, he, rfl, (Option.some.inj hc).symm⟩
    · right
      have hl : ∀ e ∈ M', fk e ≠ l := fun e he e2 => hex ⟨e, he, e2⟩
      obtain ⟨h1, h2, h3⟩ := (hout l hl).2 c hc
      exact ⟨hl, h1, h2, h3⟩
  -- a block of the callee's is none of the others
  have hWs : ∀ l c b, C.m l = some c → l ∉ srcs L M → C.blk l = some b → ¬ ∃ l' ∈ srcs L M, ∃ c, C.m l' = some c ∧ C.blk l' = some b := by
    rintro l c b h1 h2 h3 ⟨l', h4, c', h5, h6⟩
    obtain rfl := hw.inj l l' c c' b h1 h5 h3 h6
    exact h2 h4
  have hheap : ∀ l c b, C.m l = some c → l ∉ srcs L M → C.blk l = some b → C1.w.heap[b]? = C.w.heap[b]? := fun l c b h1 h2 h3 => hw1.block b (hw.own l c b h1 h3).1 (hWs l c b h1 h2 h3)
  have hImem : ∀ k, C.I k → C1.w.heap[k]? = C.w.heap[k]? := fun k hk => hle1.mem k (.inl hk)
  -- the old objects
  have hold : ∀ e ∈ M', e.2.gen = 0 → ∃ l raw, fk e = l ∧ (kap L nb g e.1 0).2 = (kap L nb g e.1 e.2.gen).2 ∧ C.m l = some (.var (kap L nb g e.1 0).2 raw) ∧ C1.blk e.1 = C.blk l ∧ (∃ w, e.2 = .var 0 w) ∧
      ∀ b, C.blk l = some b → ∀ cur Ty, C.w.heap[b]? = some (.cells cur Ty (0, 0)) → ∃ cur', C1.w.heap[b]? = some (.cells cur' Ty (0, 0)) ∧ cur'.size = cur.size := by
    intro e he hge
    obtain ⟨w', q, hMe, hLe⟩ := h.old e he hge
    have hfe := h.named.fit _ (look_mem hMe)
    obtain ⟨l, gl, raw, e1, e2, _⟩ := hfe
    simp only at e1
    rw [hLe] at e1
    obtain rfl := (by simpa using e1 : q = (l, gl))
    have hgE := goodM_mem hgM he
    have hvar : ∃ w, e.2 = .var 0 w := by
      cases hq : e.2 with
      | var g1 w => rw [hq] at hge; simp only [Loc.gen] at hge; subst hge; exact ⟨w, rfl⟩
      | rows g1 sz xs => rw [hq] at hge hgE; simp only [Loc.gen] at hge; subst hge; simp [goodE] at hgE
    obtain ⟨w, hew⟩ := hvar
    have hC1 : C1.m e.1 = some (.var 0 w) := by rw [hm1, ← hew]; exact look_of_mem hnd he
    obtain ⟨c0, k1, k2, k3, k4⟩ := hle1.loc e.1 _ hC1 rfl
    have hkap : kap L nb g e.1 0 = (l, gl) := by simp [kap, hLe]
    have hblk : (reCtx C L M T (· = 0)).blk e.1 = C.blk l := by simp [reCtx, src, hLe]
    refine ⟨l, raw, ?_, by rw [hge], by rw [hkap]; exact e2, k3.trans hblk, ⟨w, hew⟩, fun b hb cur Ty hcur => k4 b (hblk.trans hb) cur Ty hcur⟩
    show (kap L nb g e.1 e.2.gen).1 = l
    rw [hge, hkap]
  have hnewg : ∀ e ∈ M', e.2.gen ≠ 0 → (kap L nb g e.1 e.2.gen).2 = g := fun e he hge => by simp [kap, hge]
  have hle : C.Le C' := by
    refine ⟨fun k hk => .inl hk, fun k hk => ?_, hImem, fun l c' hc hu => ?_⟩
    · cases keep with
      | true => exact .inl ⟨rfl, hk⟩
      | false => exact .inr ⟨rfl, hle1.I k (.inl hk)⟩
    · rcases hcase l c' hc with ⟨e, he, rfl, rfl⟩ | ⟨hl, h1, h2, h3⟩
      · rw [renLoc_gen] at hu
        by_cases hge : e.2.gen = 0
        · obtain ⟨l, raw, k1, k2, k3, k4, ⟨w, k5⟩, k6⟩ := hold e he hge
          rw [(hin e he).2]
          rw [k1]
          refine ⟨_, k3, ?_, k4, k6⟩
          rw [k5]
          exact rfl
        · rw [hnewg e he hge] at hu
          exact absurd hu hnew
      · refine ⟨c', h1, Loc.same_refl _, (hout l hl).1, fun b hb cur Ty hcur => ⟨cur, ?_, rfl⟩⟩
        exact (hheap l c' b h1 h2 hb).trans hcur
  have hback : Back C1 C' L nb g keep M' := by
    refine ⟨rfl, ?_, hm1, fun k c hl => ?_⟩
    · cases keep with
      | true => exact .inl rfl
      | false => exact .inr fun k hk => .inr ⟨rfl, hk⟩
    · have he := look_mem hl
      refine ⟨(hin _ he).1, (hin _ he).2, ?_⟩
      show C.used _ ∨ _ = g
      by_cases hge : c.gen = 0
      · obtain ⟨l, raw, k1, k2, k3, _⟩ := hold _ he hge
        have := hw.gens l _ k3
        left
        rw [hge]
        exact this
      · right
        exact hnewg _ he hge
  have hIw : ∀ k, C'.I k → C1.I k := by
    rintro k (⟨_, hk⟩ | ⟨_, hk⟩)
    · exact hle1.I k (.inl hk)
    · exact hk
  have hm1s : ∀ e ∈ M', C1.m e.1 = some e.2 := fun e he => by rw [hm1]; exact look_of_mem hnd he
  have hWs0 : ∀ b, (∃ l ∈ srcs L M, ∃ c, C.m l = some c ∧ C.blk l = some b) → Ws b ∨ w0.heap.size ≤ b := fun b ⟨l, _, c, h1, h2⟩ => (hw.own l c b h1 h2).2.2
  have hwr : WR w0 Ws I0 C' := by
    refine ⟨fun l c hc => ?_, fun l1 l2 c1 c2 b h1 h2 h3 h4 => ?_, fun l c b hc hb => ?_, fun k hk => ?_, fun k hk => ?_, fun l c hc => ?_, hw1.os.trans hw.os, hw1.tape.trans hw.tape, hw1.output.trans hw.output,
      Nat.le_trans hw.size hw1.size, fun k hk hn => ?_⟩
    · rcases hcase l c hc with ⟨e, he, rfl, rfl⟩ | ⟨hl, h1, h2, h3⟩
      · exact LocOk_back hback (look_of_mem hnd he) (goodM_mem hgM he) (hw1.locs e.1 e.2 (hm1s e he))
      · exact (hw.locs l c h1).mono hle (hout l hl).1 (fun b hb => hheap l c b h1 h2 hb)
    · have hmix : ∀ e ∈ M', ∀ l c b, (∀ e ∈ M', fk e ≠ l) → C.m l = some c → l ∉ srcs L M → C'.blk l = some b → C'.blk (fk e) = some b → False := by
        intro e he l c b hl k1 k2 k3 k4
        rw [(hout l hl).1] at k3
        rw [(hin e he).2] at k4
        rcases (hw1.own e.1 e.2 b (hm1s e he) k4).2.2 with k5 | k5
        · exact hWs l c b k1 k2 k3 k5
        · have h5 : C.w.heap.size ≤ b := k5
          have := (hw.own l c b k1 k3).1; omega
      rcases hcase l1 c1 h1 with ⟨e, he, rfl, rfl⟩ | ⟨hl, k1, k2, k3⟩ <;> rcases hcase l2 c2 h2 with ⟨e', he', rfl, rfl⟩ | ⟨hl', k1', k2', k3'⟩
      · rw [(hin e he).2] at h3
        rw [(hin e' he').2] at h4
        have e1 := hw1.inj e.1 e'.1 e.2 e'.2 b (hm1s e he) (hm1s e' he') h3 h4
        have e2 : e.2 = e'.2 := by
          have := hm1s e he
          rw [e1, hm1s e' he'] at this
          exact (Option.some.inj this).symm
        show (kap L nb g e.1 e.2.gen).1 = (kap L nb g e'.1 e'.2.gen).1
        rw [e1, e2]
      · exact (hmix e he l2 c2 b hl' k1' k2' h4 h3).elim
      · exact (hmix e' he' l1 c1 b hl k1 k2 h3 h4).elim
      · rw [(hout l1 hl).1] at h3
        rw [(hout l2 hl').1] at h4
        exact hw.inj l1 l2 c1 c2 b k1 k1' h3 h4
    · rcases hcase l c hc with ⟨e, he, rfl, rfl⟩ | ⟨hl, k1, k2, k3⟩
      · rw [(hin e he).2] at hb
        obtain ⟨q1, q2, q3⟩ := hw1.own e.1 e.2 b (hm1s e he) hb
        refine ⟨q1, fun hI => q2 (hIw b hI), ?_⟩
        rcases q3 with q3 | q3
        · exact hWs0 b q3
        · exact .inr (Nat.le_trans hw.size q3)
      · rw [(hout l hl).1] at hb
        obtain ⟨q1, q2, q3⟩ := hw.own l c b k1 hb
        refine ⟨Nat.lt_of_lt_of_le q1 hw1.size, ?_, q3⟩
        rintro (⟨_, hI⟩ | ⟨hkf, hI⟩)
        · exact q2 hI
        · rcases (hw1.imm b hI).2 with hI | hI | hI
          · rcases hI with hI | ⟨t, ht, ct, hct, hbt⟩
            · exact q2 hI
            · obtain rfl := hw.inj l t c ct b k1 hct hb hbt
              exact k3 hkf ht
          · exact hWs l c b k1 k2 hb hI
          · have h5 : C.w.heap.size ≤ b := hI
            omega
    · have hsz := (hw1.imm k (hIw k hk)).1
      refine ⟨hsz, ?_⟩
      rcases hk with ⟨_, hk⟩ | ⟨_, hk⟩
      · exact (hw.imm k hk).2
      · rcases (hw1.imm k hk).2 with hI | hI | hI
        · rcases hI with hI | ⟨t, ht, ct, hct, hbt⟩
          · exact (hw.imm k hI).2
          · exact .inr ((hw.own t ct k hct hbt).2.2)
        · exact .inr (hWs0 k hI)
        · exact .inr (.inr (Nat.le_trans hw.size hI))
    · exact hle.I k (hw.imm0 k hk)
    · rcases hcase l c hc with ⟨e, he, rfl, rfl⟩ | ⟨hl, k1, k2, k3⟩
      · rw [renLoc_gen]
        exact (hback.at_ e.1 e.2 (look_of_mem hnd he)).2.2
      · exact .inl (hw.gens l c k1)
    · have hks : k < C.w.heap.size := Nat.lt_of_lt_of_le hk hw.size
      refine (hw1.block k hks (fun hex => ?_)).trans (hw.block k hk hn)
      rcases hWs0 k hex with h1 | h1
      · exact hn h1
      · omega
  exact hK y C' (SV_back hback hgr hv1) hle hwr rfl (fun k hk => hk)
end
end Go.Proofs.YtngemgmnpcaamaaDoor.WL
