/-
  THE ABSTRACT MACHINE over lists, and that the model's code follows it.
-/
import Derived.Test.YtngemgmnpcaamaaDoorWl23
import Derived.Deep.LoopGhost
import Derived.ScopeJumps
namespace Go.Proofs.YtngemgmnpcaamaaDoor.WL
open Go

/-! Sorted lists of what is known. -/
def insL {α : Type} : List (Nat × α) → Nat → α → List (Nat × α)
  | [], k, v => [(k, v)]
  | (j, u) :: r, k, v => if k < j then (k, v) :: (j, u) :: r else if k = j then (k, v) :: r else (j, u) :: insL r k v

def delL {α : Type} : List (Nat × α) → Nat → List (Nat × α)
  | [], _ => []
  | (j, u) :: r, k => if j = k then delL r k else (j, u) :: delL r k

def keepL {α : Type} (ks : List Nat) : List (Nat × α) → List (Nat × α)
  | [] => []
  | (j, u) :: r => if j ∈ ks then (j, u) :: keepL ks r else keepL ks r

theorem look_insL {α : Type} : ∀ (l : List (Nat × α)) (k : Nat) (v : α), look (insL l k v) = upd (look l) k (some v)
  | [], k, v => by funext t; simp [insL, look, upd, eq_comm]
  | (j, u) :: r, k, v => by
    funext t
    simp only [insL]
    split
    · simp only [look, upd]
      by_cases h : t = k
      · simp [h]
      · simp [h, Ne.symm h]
    · split
      · rename_i h
        subst h
        simp only [look, upd]
        by_cases h : t = k
        · simp [h]
        · simp [h, Ne.symm h]
      · rename_i h1 h2
        simp only [look]
        rw [look_insL r k v]
        by_cases h : j = t
        · subst h
          simp [upd, look, Ne.symm h2]
        · by_cases h3 : t = k
          · subst h3; simp [upd, h]
          · simp [upd, h, h3, look]

theorem look_delL {α : Type} : ∀ (l : List (Nat × α)) (k : Nat), look (delL l k) = upd (look l) k none
  | [], k => by funext t; simp [delL, look, upd]
  | (j, u) :: r, k => by
    funext t
    simp only [delL]
    split
    · rename_i h
      subst h
      rw [look_delL r j]
      simp only [upd, look]
      by_cases h : t = j
      · simp [h]
      · simp [h, Ne.symm h]
    · rename_i h1
      simp only [look]
      rw [look_delL r k]
      by_cases h : j = t
      · subst h; simp [upd, look, h1]
      · by_cases h3 : t = k
        · subst h3; simp [upd, h]
        · simp [upd, h, h3, look]

theorem look_keepL {α : Type} {ks : List Nat} : ∀ {l : List (Nat × α)} {t : Nat} {x : α}, look (keepL ks l) t = some x → look l t = some x
  | [], _, _, h => h
  | (j, u) :: r, t, x, h => by
    simp only [keepL] at h
    split at h
    · simp only [look] at h ⊢
      split at h
      · rename_i e; rw [if_pos e]; exact h
      · rename_i e; rw [if_neg e]; exact look_keepL h
    · rename_i hj
      simp only [look]
      have hk := look_keepL h
      split
      · rename_i e
        subst e
        -- the key is not kept: nothing of it is left
        exfalso
        have : ∀ (l : List (Nat × α)), look (keepL ks l) j = none := by
          intro l
          induction l with
          | nil => rfl
          | cons p l ih =>
            obtain ⟨k, w⟩ := p
            simp only [keepL]
            split
            · rename_i hk'
              simp only [look]
              rw [if_neg (fun e : k = j => hj (e ▸ hk')), ih]
            · exact ih
        rw [this] at h
        cases h
      · exact hk

def setL (fr : List (Nat × AV)) (d : Option Nat) (av : AV) : List (Nat × AV) := match d with | none => fr | some d => insL fr d av

def upsL : List (Nat × Loc) → List (Nat × Option Loc) → List (Nat × Loc)
  | m, [] => m
  | m, (k, some c) :: us => upsL (insL m k c) us
  | m, (k, none) :: us => upsL (delL m k) us

theorem look_upsL : ∀ (us : List (Nat × Option Loc)) (m : List (Nat × Loc)), look (upsL m us) = ups (look m) us
  | [], _ => rfl
  | (k, some c) :: us, m => by rw [upsL, look_upsL us, look_insL]; rfl
  | (k, none) :: us, m => by rw [upsL, look_upsL us, look_delL]; rfl

theorem look_setL (fr : List (Nat × AV)) (d : Option Nat) (av : AV) : look (setL fr d av) = setd (look fr) d av := by
  cases d with
  | none => rfl
  | some d => exact look_insL fr d av

structure SA where
  fr : List (Nat × AV)
  m : List (Nat × Loc)
  clk : Nat

/-- The model's state is this abstract one. -/
def Rel (w0 : World) (Ws I0 : Nat → Prop) (G : Nat → Option AV) (C0 : Ctx) (N : Nat) (S : SA) (a : Act) (w : World) : Prop :=
  2 ≤ S.clk ∧ ∃ C, C.w = w ∧ Mid w0 Ws I0 G C0 N S.clk S.clk [] (look S.fr, look S.m) a C

/-- What the one tells, the other does too. -/
def Weak (S S0 : SA) : Prop := ∀ (w0 : World) (Ws I0 : Nat → Prop) (G : Nat → Option AV) (C0 : Ctx) (N : Nat) (a : Act) (w : World), Rel w0 Ws I0 G C0 N S a w → Rel w0 Ws I0 G C0 N S0 a w

theorem Weak.refl (S : SA) : Weak S S := fun _ _ _ _ _ _ _ _ h => h
theorem Weak.trans {S S1 S2 : SA} (h : Weak S S1) (k : Weak S1 S2) : Weak S S2 := fun _ _ _ _ _ _ _ _ hr => k _ _ _ _ _ _ _ _ (h _ _ _ _ _ _ _ _ hr)

/-- Less is known. -/
structure Less (S S0 : SA) : Prop where
  fr : ∀ t x, look S0.fr t = some x → look S.fr t = some x
  m : ∀ l c, look S0.m l = some c → look S.m l = some c
  clk : S.clk ≤ S0.clk

theorem Less.weak {S S0 : SA} (hw : Less S S0) : Weak S S0 := by
  intro w0 Ws I0 G C0 N a w h
  obtain ⟨h2, C, rfl, hm⟩ := h
  have hmm : C.m = look S.m := hm.m
  obtain ⟨hle, hwr⟩ := hm.wr.restrict (m' := look S0.m) (fun l c hc => by rw [hmm]; exact hw.m l c hc)
  refine ⟨Nat.le_trans h2 hw.clk, { C with m := look S0.m }, rfl, hwr, rfl, fun t x hx => ?_, hm.gr.mono hle, hm.le.trans hle, hm.size, hm.defers, (fun i hi => by cases hi), fun k hk => Nat.lt_of_lt_of_le (hm.top k hk) hw.clk, hm.one⟩
  exact (hm.fr.mono hle) t x (hw.fr t x hx)

theorem Weak.drop {fr : List (Nat × AV)} {k : Nat} {v : Loc} {m : List (Nat × Loc)} {c : Nat} (h : look m k = none) : Weak ⟨fr, (k, v) :: m, c⟩ ⟨fr, m, c⟩ := by
  refine Less.weak ⟨fun _ _ h => h, fun l c' hl => ?_, Nat.le_refl _⟩
  simp only [look]
  rw [if_neg (fun e => by subst e; rw [h] at hl; cases hl)]
  exact hl

inductive CCode where
  | skip
  | region (cs : List COper) (draw : Option (List Nat × List (Nat × Nat))) (keep : List Nat)
  | seq (a b : CCode)
  | cond (c : COpd) (x y : CCode)
  | block (id : Nat) (c : CCode)
  | loop (c : CCode)
  | ghost (c : CCode)
  | exit (id : Nat)
  | ret
  | scope (l : Nat) (c rest : CCode)
  | label (l : Nat)
  | goto (l : Nat)

section
variable (P : Program) (G : Nat → Option AV)

/-- The effect of an operation that runs. -/
def opEW (g : Nat) (op : COp) (d : Nat) (vals : List AV) (m : List (Nat × Loc)) (K : AV → List (Nat × Option Loc) → List Nat → Prop) : Prop :=
  match op with
  | .call f => ∃ L args M keep res M' T, CallOk P G f vals (look m) g (nbOf d) L args M keep res M' T ∧ K (renA L (nbOf d) g res) (callUs (nbOf d) g L M keep M' T) (T ++ nameSrcs L)
  | op => match step op vals (look m) g d with
    | some (av, us) => K av us (reads op vals)
    | none => False

def opW (g : Nat) (c : COper) (fr : List (Nat × AV)) (m : List (Nat × Loc)) (K : AV → List (Nat × Option Loc) → List Nat → Prop) : Prop :=
  match wantV (look fr) c.guard with
  | some false => K (.tup []) [] []
  | some true => match evs G (look fr) c.xs with
    | some vals => opEW P G g c.op (c.dst.getD 0) vals m K
    | none => False
  | none => False

def regW (clk : Nat) : List COper → Nat → List (Nat × AV) → List (Nat × Loc) → Log → (List (Nat × AV) → List (Nat × Loc) → Log → Prop) → Prop
  | [], _, fr, m, lg, K => K fr m lg
  | c :: r, i, fr, m, lg, K => opW P G (clk + i) c fr m fun av us rd => regW clk r (i + 1) (setL fr c.dst av) (upsL m us) (lg ++ [(i, rd, us.map (·.1))]) K

def thenA (next : SA → Prop) (Q : Exit → SA → Prop) : Exit → SA → Prop
  | .normal, S => next S
  | e, S => Q e S
def inBlockA (id : Nat) (Q : Exit → SA → Prop) : Exit → SA → Prop
  | .exit id', S => if id' = id then Q .normal S else Q (.exit id') S
  | e, S => Q e S

/-- A jump ahead, to a label that is not jumped to again. -/
def jumpA (l : Nat) (J : SA → Prop) (Q : Exit → SA → Prop) : Exit → SA → Prop
  | .goto l', S => l' = l ∧ J S
  | e, S => Q e S
def noGotoA (Q : Exit → SA → Prop) : Exit → SA → Prop
  | .goto _, _ => False
  | e, S => Q e S

def awp : CCode → (Exit → SA → Prop) → SA → Prop
  | .skip, Q, S => Q .normal S
  | .region cs dr keep, Q, S => regW P G S.clk cs 0 S.fr S.m [] fun fr m lg => (match dr with | none => True | some (_, D) => dynOk lg D) ∧ Q .normal ⟨keepL keep fr, m, S.clk + cs.length⟩
  | .seq a b, Q, S => awp a (thenA (awp b Q) Q) S
  | .cond c x y, Q, S => ∃ b, ev G (look S.fr) c = some (.v (.bool b)) ∧ (if b = true then awp x Q S else awp y Q S)
  | .block id c, Q, S => awp c (inBlockA id Q) S
  | .loop c, Q, S => ∃ (I : Nat → SA → Prop), (∃ n S0, Weak S S0 ∧ I n S0) ∧ ∀ n S', I n S' → awp c (thenA (fun S'' => ∃ n' S3, Weak S'' S3 ∧ I n' S3 ∧ n' < n) Q) S'
  | .ghost c, Q, S => ∃ S0, Weak S S0 ∧ awp c Q S0
  | .exit id, Q, S => Q (.exit id) S
  | .ret, Q, S => Q .ret S
  | .scope l c rest, Q, S => awp c (jumpA l (fun S' => awp rest (noGotoA Q) S') Q) S
  | .label _, Q, S => Q .normal S
  | .goto l, Q, S => Q (.goto l) S
end

def chkCode (P : Program) (N : Nat) : Code → CCode → Bool
  | c, .ghost x => chkCode P N c x
  | .skip, .skip => true
  | .region _ ops false, .region cs none _ => chkList P ops N ops.toList cs
  | .region _ ops true, .region cs (some (A, D)) _ => chkList P ops N ops.toList cs && ordOk cs A D 0 ops.toList cs
  | .seq a b, .seq x y => chkCode P N a x && chkCode P N b y
  | .cond c a b, .cond d x y => chkOpd c d && chkCode P N a x && chkCode P N b y
  | .block i a, .block j x => i == j && chkCode P N a x
  | .loop a, .loop x => chkCode P N a x
  | .exit i, .exit j => i == j
  | .ret, .ret => true
  | .label i, .label j => i == j
  | .goto i, .goto j => i == j
  | .scope c, .scope l x y => chkCode P N c x && (match findLabel c l with | some rest => chkCode P N rest y | none => false)
  | _, _ => false
termination_by structural _ x => x

section
variable {P : Program} {w0 : World} {Ws I0 : Nat → Prop} {G : Nat → Option AV} {C0 : Ctx} {N : Nat}

theorem opW_ok {g : Nat} {c : COper} {fr : List (Nat × AV)} {m : List (Nat × Loc)} {K : AV → List (Nat × Option Loc) → List Nat → Prop} (h : opW P G g c fr m K) :
    ∃ av us rd, OpR P G g c (look fr, look m) av us rd ∧ K av us rd := by
  unfold opW at h
  split at h
  · rename_i hw
    exact ⟨.tup [], [], [], .inl ⟨hw, rfl, rfl, rfl⟩, h⟩
  · rename_i hw
    split at h
    · rename_i vals hv
      suffices hs : ∃ av us rd, OpE P G g c.op (c.dst.getD 0) vals (look m) av us rd ∧ K av us rd by
        obtain ⟨av, us, rd, h1, h2⟩ := hs
        exact ⟨av, us, rd, .inr ⟨hw, vals, hv, h1⟩, h2⟩
      unfold opEW at h
      split at h
      · rename_i f hop
        obtain ⟨L, args, M, keep, res, M', T, h1, h2⟩ := h
        rw [hop]
        exact ⟨_, _, _, ⟨L, args, M, keep, res, M', T, h1, rfl, rfl, rfl⟩, h2⟩
      · rename_i hop
        split at h
        · rename_i av us hst
          refine ⟨av, us, _, ?_, h⟩
          revert hst hop
          cases c.op <;> first | exact fun hop hst => ⟨hst, rfl⟩ | exact fun hop => absurd rfl (hop _)
        · cases h
    · cases h
  · cases h

theorem regW_ok {clk : Nat} : ∀ {cs : List COper} {i : Nat} {fr : List (Nat × AV)} {m : List (Nat × Loc)} {lg : Log} {K : List (Nat × AV) → List (Nat × Loc) → Log → Prop}, regW P G clk cs i fr m lg K →
    ∃ fr' m' lg', RunL P G clk (num i cs) (look fr, look m) lg' (look fr', look m') ∧ K fr' m' (lg ++ lg')
  | [], i, fr, m, lg, K, h => ⟨fr, m, [], ⟨rfl, rfl⟩, by simpa [regW] using h⟩
  | c :: r, i, fr, m, lg, K, h => by
    simp only [regW] at h
    obtain ⟨av, us, rd, h1, h2⟩ := opW_ok h
    obtain ⟨fr', m', lg', h3, h4⟩ := regW_ok h2
    refine ⟨fr', m', (i, rd, us.map (·.1)) :: lg', ⟨av, us, rd, lg', h1, rfl, ?_⟩, by simpa using h4⟩
    rw [look_setL, look_upsL] at h3
    exact h3

theorem Rel.start {S : SA} {a : Act} {C : Ctx} {n : Nat} (h2 : 2 ≤ S.clk) (h : Mid w0 Ws I0 G C0 N S.clk S.clk [] (look S.fr, look S.m) a C) (rem : List Nat) : Mid w0 Ws I0 G C0 N S.clk (S.clk + n) rem (look S.fr, look S.m) a C :=
  ⟨h.wr, h.m, h.fr, h.gr, h.le, h.size, h.defers, fun i _ hu => by have := h.top _ hu; omega, fun k hk => by have := h.top k hk; omega, h.one⟩

theorem Rel.stop {S : SA} {fr' : List (Nat × AV)} {m' : List (Nat × Loc)} {a : Act} {C : Ctx} {n : Nat} (keep : List Nat) (h2 : 2 ≤ S.clk) (h : Mid w0 Ws I0 G C0 N S.clk (S.clk + n) [] (look fr', look m') a C) :
    Rel w0 Ws I0 G C0 N ⟨keepL keep fr', m', S.clk + n⟩ a C.w :=
  ⟨by simp only; omega, C, rfl, h.wr, h.m, fun t x hx => h.fr t x (look_keepL hx), h.gr, h.le, h.size, h.defers, (fun i hi => by cases hi), h.top, h.one⟩

theorem awp_ok (hmix : P.follows .mixedOrders = true) : ∀ {c : Code} {x : CCode} {Q : Exit → SA → Prop} {S : SA} {a : Act} {w : World}, chkCode P N c x = true → awp P G x Q S → Rel w0 Ws I0 G C0 N S a w →
    c.wp P (fun e a w => ∃ S', Q e S' ∧ Rel w0 Ws I0 G C0 N S' a w) a w := by
  intro c x
  induction x generalizing c with
  | skip =>
    intro Q S a w hc h hr
    cases c <;> simp only [chkCode, Bool.false_eq_true] at hc
    exact wp_skip ⟨S, h, hr⟩
  | exit id =>
    intro Q S a w hc h hr
    cases c <;> simp only [chkCode, Bool.false_eq_true] at hc
    simp only [beq_iff_eq] at hc
    subst hc
    exact wp_exit ⟨S, h, hr⟩
  | ret =>
    intro Q S a w hc h hr
    cases c <;> simp only [chkCode, Bool.false_eq_true] at hc
    exact wp_ret ⟨S, h, hr⟩
  | seq x y ihx ihy =>
    intro Q S a w hc h hr
    cases c <;> simp only [chkCode, Bool.false_eq_true] at hc
    simp only [Bool.and_eq_true] at hc
    refine wp_seq (wp_mono (ihx hc.1 h hr) ?_)
    rintro e a' w' ⟨S', h1, h2⟩
    cases e <;> first | exact ihy hc.2 h1 h2 | exact ⟨S', h1, h2⟩
  | cond t x y ihx ihy =>
    intro Q S a w hc h hr
    cases c <;> simp only [chkCode, Bool.false_eq_true] at hc
    simp only [Bool.and_eq_true] at hc
    obtain ⟨b, h1, h2⟩ := h
    obtain ⟨hk, C, rfl, hm⟩ := hr
    have hv := ev_ok hm.fr hm.gr hc.1.1 h1
    refine wp_cond (t := b) (SV_bool hv) ?_
    cases b with
    | true => exact ihx hc.1.2 (by simpa using h2) ⟨hk, C, rfl, hm⟩
    | false => exact ihy hc.2 (by simpa using h2) ⟨hk, C, rfl, hm⟩
  | block id x ih =>
    intro Q S a w hc h hr
    cases c <;> simp only [chkCode, Bool.false_eq_true] at hc
    simp only [Bool.and_eq_true, beq_iff_eq] at hc
    obtain ⟨rfl, hc⟩ := hc
    refine wp_block (wp_mono (ih hc h hr) ?_)
    rintro e a' w' ⟨S', h1, h2⟩
    cases e <;> first
      | exact ⟨S', h1, h2⟩
      | (simp only [inBlockA] at h1
         simp only [Exit.inBlock]
         split at h1
         · rename_i e; rw [if_pos e]; exact ⟨S', h1, h2⟩
         · rename_i e; rw [if_neg e]; exact ⟨S', h1, h2⟩)
  | loop x ih =>
    intro Q S a w hc h hr
    cases c <;> simp only [chkCode, Bool.false_eq_true] at hc
    obtain ⟨I, ⟨n0, S0, hw0, h0⟩, hI⟩ := h
    refine wp_loop_ghost (fun n a w => ∃ S, I n S ∧ Rel w0 Ws I0 G C0 N S a w) n0 ⟨S0, h0, hw0 _ _ _ _ _ _ _ _ hr⟩ ?_
    rintro n a' w' ⟨S', h1, h3⟩
    refine wp_mono (ih hc (hI n S' h1) h3) ?_
    rintro e a'' w'' ⟨S'', k1, k2⟩
    cases e <;> first
      | exact ⟨S'', k1, k2⟩
      | (obtain ⟨n', S3, q1, q2, q3⟩ := k1; exact ⟨n', q3, S3, q2, q1 _ _ _ _ _ _ _ _ k2⟩)
  | ghost x ih =>
    intro Q S a w hc h hr
    obtain ⟨S0, h1, h2⟩ := h
    have hc' : chkCode P N c x = true := by cases c <;> exact hc
    exact ih hc' h2 (h1 _ _ _ _ _ _ _ _ hr)
  | label l =>
    intro Q S a w hc h hr
    cases c <;> simp only [chkCode, Bool.false_eq_true] at hc
    exact wp_label ⟨S, h, hr⟩
  | goto l =>
    intro Q S a w hc h hr
    cases c <;> simp only [chkCode, Bool.false_eq_true] at hc
    simp only [beq_iff_eq] at hc
    subst hc
    exact wp_goto ⟨S, h, hr⟩
  | scope l x y ihx ihy =>
    intro Q S a w hc h hr
    cases c <;> simp only [chkCode, Bool.false_eq_true] at hc
    simp only [Bool.and_eq_true] at hc
    obtain ⟨hcx, hcy⟩ := hc
    split at hcy <;> first | (cases hcy; done) | skip
    rename_i rest hrest
    refine wp_scope_jumps l (fun a w => ∃ S', awp P G y (noGotoA Q) S' ∧ Rel w0 Ws I0 G C0 N S' a w) (fun _ _ => 0) hrest ?_ ?_
    · refine wp_mono (ihx hcx h hr) ?_
      rintro e a' w' ⟨S', h1, h2⟩
      cases e <;> first
        | exact ⟨S', h1, h2⟩
        | exact ⟨h1.1, S', h1.2, h2⟩
    · rintro a' w' ⟨S', h1, h2⟩
      refine wp_mono (ihy hcy h1 h2) ?_
      rintro e a'' w'' ⟨S'', k1, k2⟩
      cases e <;> first
        | exact ⟨S'', k1, k2⟩
        | exact k1.elim
  | region cs dr keep =>
    intro Q S a w hc h hr
    cases c with
    | region id ops draw =>
      obtain ⟨hk, C, rfl, hm⟩ := hr
      simp only [awp] at h
      obtain ⟨fr', m', lg', h1, h2, h3⟩ := regW_ok h
      simp only [List.nil_append] at h2
      cases draw with
      | false =>
        cases dr <;> simp only [chkCode, Bool.false_eq_true] at hc
        refine wp_region ?_
        have hlen := (chkList_get (i := 0) hc).1
        have hfst : (num 0 cs).map (·.1) = List.range ops.size := by
          rw [num_fst, List.range_eq_range', ← hlen]; simp
        rw [← hfst]
        refine walk_ops (top := S.clk + cs.length) (N := N) (fun i c hi => ?_) (by rw [hfst]; exact List.nodup_range) (Rel.start hk hm _) h1 fun a' C' hm' => ?_
        · have hg := (num_get hi).2
          simp only [Nat.sub_zero] at hg
          have hlt := (List.getElem?_eq_some_iff.1 hg).1
          have hos : i < ops.size := by simpa using (by omega : i < ops.toList.length)
          exact ⟨ops[i], Array.getElem?_eq_getElem hos, (chkList_get hc).2 _ _ (by simp [hos]) hg, by omega, by omega⟩
        · exact ⟨_, h3, Rel.stop keep hk hm'⟩
      | true =>
        cases dr with
        | none => simp [chkCode] at hc
        | some AD =>
          obtain ⟨A, D⟩ := AD
          simp only [chkCode, Bool.and_eq_true] at hc
          refine wp_region_any hmix ?_
          have hm0 : Mid w0 Ws I0 G C0 N S.clk (S.clk + cs.length) ((num 0 cs).map (·.1)) (look S.fr, look S.m) a C := Rel.start hk hm _
          obtain ⟨hle, hwr⟩ := hm0.wr.world (w' := { C.w with drawn := C.w.drawn + 1 }) ⟨rfl, rfl, rfl, Nat.le_refl _, fun _ _ _ => rfl⟩
          have hlen := (chkList_get (i := 0) hc.1).1
          have hlen' : ops.size = cs.length := by simpa using hlen
          have hfil : num 0 cs = (num 0 cs).filter (fun p => !(Array.replicate ops.size false).getD p.1 true) := by
            refine (List.filter_eq_self.2 fun p hp => ?_).symm
            have hg := (num_get hp).2
            simp only [Nat.sub_zero] at hg
            have hlt := (List.getElem?_eq_some_iff.1 hg).1
            simp [Array.getD, hlen', hlt]
          have hnlen : (num 0 cs).length = ops.size := by
            have := congrArg List.length (num_fst 0 cs)
            simpa [hlen'] using this
          refine walk_any (C0 := C0) (N := N) (D := D) (A := A) (clk := S.clk) (top := S.clk + cs.length) (Ws := Ws) (I0 := I0) (w0 := w0) hc.1 hc.2 (fun i hi => ⟨by omega, by omega⟩) (fun a' C' hm' => ⟨_, h3, Rel.stop keep hk hm'⟩) ops.size (Array.replicate ops.size false) (num 0 cs) _ a { C with w := { C.w with drawn := C.w.drawn + 1 } } lg' (by simp) hfil hnlen ?_ ?_ h2
            ⟨hwr, hm0.m, hm0.fr.mono hle, hm0.gr.mono hle, hm0.le.trans hle, hm0.size, hm0.defers, hm0.fresh, hm0.top, hm0.one⟩ h1
          · intro j o hj
            exfalso
            simp [Array.getD] at hj
          · rw [(RunL_log h1).2, num_fst]
            exact List.nodup_range'
    | _ => cases dr <;> simp [chkCode] at hc

end

section
variable {P : Program} {G : Nat → Option AV}
theorem opW_mono {g : Nat} {c : COper} {fr : List (Nat × AV)} {m : List (Nat × Loc)} {K K' : AV → List (Nat × Option Loc) → List Nat → Prop} (hk : ∀ a b d, K a b d → K' a b d) (h : opW P G g c fr m K) : opW P G g c fr m K' := by
  unfold opW at *
  split at h
  · exact hk _ _ _ h
  · split at h
    · unfold opEW at *
      split at h
      · rename_i f hop
        obtain ⟨L, args, M, keep, res, M', T, h1, h2⟩ := h
        exact ⟨L, args, M, keep, res, M', T, h1, hk _ _ _ h2⟩
      · rename_i hop
        split at h
        · exact hk _ _ _ h
        · cases h
    · cases h
  · cases h
theorem regW_mono {clk : Nat} : ∀ {cs : List COper} {i : Nat} {fr : List (Nat × AV)} {m : List (Nat × Loc)} {lg : Log} {K K' : List (Nat × AV) → List (Nat × Loc) → Log → Prop}, (∀ a b d, K a b d → K' a b d) → regW P G clk cs i fr m lg K → regW P G clk cs i fr m lg K'
  | [], _, _, _, _, _, _, hk, h => hk _ _ _ h
  | _ :: _, _, _, _, _, _, _, hk, h => opW_mono (fun _ _ _ h => regW_mono hk h) h

theorem awp_mono : ∀ {x : CCode} {Q Q' : Exit → SA → Prop} {S : SA}, awp P G x Q S → (∀ e S, Q e S → Q' e S) → awp P G x Q' S := by
  intro x
  induction x with
  | skip => intro Q Q' S h hq; exact hq _ _ h
  | exit id => intro Q Q' S h hq; exact hq _ _ h
  | ret => intro Q Q' S h hq; exact hq _ _ h
  | label l => intro Q Q' S h hq; exact hq _ _ h
  | goto l => intro Q Q' S h hq; exact hq _ _ h
  | region cs dr keep => intro Q Q' S h hq; exact regW_mono (fun _ _ _ h => ⟨h.1, hq _ _ h.2⟩) h
  | seq a b iha ihb =>
    intro Q Q' S h hq
    refine iha h fun e S h => ?_
    cases e <;> first | exact ihb h hq | exact hq _ _ h
  | cond c x y ihx ihy =>
    intro Q Q' S h hq
    obtain ⟨b, h1, h2⟩ := h
    refine ⟨b, h1, ?_⟩
    cases b
    · exact ihy h2 hq
    · exact ihx h2 hq
  | block id c ih =>
    intro Q Q' S h hq
    refine ih h fun e S h => ?_
    cases e <;> first
      | exact hq _ _ h
      | (simp only [inBlockA] at *
         split at h
         · rename_i e; rw [if_pos e]; exact hq _ _ h
         · rename_i e; rw [if_neg e]; exact hq _ _ h)
  | loop c ih =>
    intro Q Q' S h hq
    obtain ⟨I, h0, hI⟩ := h
    refine ⟨I, h0, fun n S' h1 => ih (hI n S' h1) fun e S h => ?_⟩
    cases e <;> first | exact h | exact hq _ _ h
  | ghost c ih =>
    intro Q Q' S h hq
    obtain ⟨S0, h1, h2⟩ := h
    exact ⟨S0, h1, ih h2 hq⟩
  | scope l c rest ihc ihr =>
    intro Q Q' S h hq
    refine ihc h fun e S h => ?_
    cases e <;> first
      | exact hq _ _ h
      | (refine ⟨h.1, ihr h.2 fun e S h => ?_⟩
         cases e <;> first | exact hq _ _ h | exact h)
end
end Go.Proofs.YtngemgmnpcaamaaDoor.WL
