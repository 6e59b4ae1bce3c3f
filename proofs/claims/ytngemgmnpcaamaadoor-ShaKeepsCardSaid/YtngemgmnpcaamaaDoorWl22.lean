/-
  REGIONS, last part: the model's regions follow.
-/
import Derived.Test.YtngemgmnpcaamaaDoorWl21
import Derived.Orders
namespace Go.Proofs.YtngemgmnpcaamaaDoor.WL
open Go

/-- All operations but calls. -/
theorem ok_all {P : Program} {w0 : World} {Ws I0 : Nat → Prop} {C : Ctx} {G fr : Nat → Option AV} {g d : Nat} {o : Oper} {a : Act} {av : AV} {xs : List COpd} {vals : List AV} {us : List (Nat × Option Loc)} :
    ∀ {c : COp}, chkOp P o.op xs c = true → evs G fr xs = some vals → FR C fr a → GR C G → WR w0 Ws I0 C → ¬ C.used g → step c vals C.m g d = some (av, us) → Does P w0 Ws I0 C g o a av us
  | .mov, hc, hev, hf, hG, hw, hn, hs => ok_mov hc hev hf hG hw hn hs
  | .pick, hc, hev, hf, hG, hw, hn, hs => ok_pick hc hev hf hG hw hn hs
  | .bin _, hc, hev, hf, hG, hw, hn, hs => ok_bin hc hev hf hG hw hn hs
  | .eqb _, hc, hev, hf, hG, hw, hn, hs => ok_eqb hc hev hf hG hw hn hs
  | .eqp _, hc, hev, hf, hG, hw, hn, hs => ok_eqp hc hev hf hG hw hn hs
  | .eqa .., hc, hev, hf, hG, hw, hn, hs => ok_eqa hc hev hf hG hw hn hs
  | .eqs .., hc, hev, hf, hG, hw, hn, hs => ok_eqs hc hev hf hG hw hn hs
  | .not, hc, hev, hf, hG, hw, hn, hs => ok_not hc hev hf hG hw hn hs
  | .un _, hc, hev, hf, hG, hw, hn, hs => ok_un hc hev hf hG hw hn hs
  | .convI _, hc, hev, hf, hG, hw, hn, hs => ok_convI hc hev hf hG hw hn hs
  | .convId, hc, hev, hf, hG, hw, hn, hs => ok_convId hc hev hf hG hw hn hs
  | .convS, hc, hev, hf, hG, hw, hn, hs => ok_convS hc hev hf hG hw hn hs
  | .convB, hc, hev, hf, hG, hw, hn, hs => ok_convB hc hev hf hG hw hn hs
  | .convM, hc, hev, hf, hG, hw, hn, hs => ok_convM hc hev hf hG hw hn hs
  | .alloc _, hc, hev, hf, hG, hw, hn, hs => ok_alloc hc hev hf hG hw hn hs
  | .box, hc, hev, hf, hG, hw, hn, hs => ok_box hc hev hf hG hw hn hs
  | .build .., hc, hev, hf, hG, hw, hn, hs => ok_build hc hev hf hG hw hn hs
  | .buildA .., hc, hev, hf, hG, hw, hn, hs => ok_buildA hc hev hf hG hw hn hs
  | .bslice .., hc, hev, hf, hG, hw, hn, hs => ok_bslice hc hev hf hG hw hn hs
  | .load .., hc, hev, hf, hG, hw, hn, hs => ok_load hc hev hf hG hw hn hs
  | .store .., hc, hev, hf, hG, hw, hn, hs => ok_store hc hev hf hG hw hn hs
  | .nilc, hc, hev, hf, hG, hw, hn, hs => ok_nilc hc hev hf hG hw hn hs
  | .faddr .., hc, hev, hf, hG, hw, hn, hs => ok_faddr hc hev hf hG hw hn hs
  | .field .., hc, hev, hf, hG, hw, hn, hs => ok_field hc hev hf hG hw hn hs
  | .iaddr _, hc, hev, hf, hG, hw, hn, hs => ok_iaddr hc hev hf hG hw hn hs
  | .iaddrArr .., hc, hev, hf, hG, hw, hn, hs => ok_iaddrArr hc hev hf hG hw hn hs
  | .idx .., hc, hev, hf, hG, hw, hn, hs => ok_idx hc hev hf hG hw hn hs
  | .idxS, hc, hev, hf, hG, hw, hn, hs => ok_idxS hc hev hf hG hw hn hs
  | .slice .., hc, hev, hf, hG, hw, hn, hs => ok_slice hc hev hf hG hw hn hs
  | .sliceArr .., hc, hev, hf, hG, hw, hn, hs => ok_sliceArr hc hev hf hG hw hn hs
  | .sliceStr .., hc, hev, hf, hG, hw, hn, hs => ok_sliceStr hc hev hf hG hw hn hs
  | .slice0 _, hc, hev, hf, hG, hw, hn, hs => ok_slice0 hc hev hf hG hw hn hs
  | .len, hc, hev, hf, hG, hw, hn, hs => ok_len hc hev hf hG hw hn hs
  | .lenS, hc, hev, hf, hG, hw, hn, hs => ok_lenS hc hev hf hG hw hn hs
  | .app .., hc, hev, hf, hG, hw, hn, hs => ok_app hc hev hf hG hw hn hs
  | .appS _, hc, hev, hf, hG, hw, hn, hs => ok_appS hc hev hf hG hw hn hs
  | .appM .., hc, hev, hf, hG, hw, hn, hs => ok_appM hc hev hf hG hw hn hs
  | .copy _, hc, hev, hf, hG, hw, hn, hs => ok_copy hc hev hf hG hw hn hs
  | .clear .., hc, hev, hf, hG, hw, hn, hs => ok_clear hc hev hf hG hw hn hs
  | .mk .., hc, hev, hf, hG, hw, hn, hs => ok_mk hc hev hf hG hw hn hs
  | .ext _, hc, hev, hf, hG, hw, hn, hs => ok_ext hc hev hf hG hw hn hs
  | .mx, hc, hev, hf, hG, hw, hn, hs => ok_mx hc hev hf hG hw hn hs
  | .mn, hc, hev, hf, hG, hw, hn, hs => ok_mn hc hev hf hG hw hn hs
  | .call _, _, _, _, _, _, _, hs => by cases hs

/-- The operation's text, its slot and its guard are these. -/
def chkOper (P : Program) (ops : Array Oper) (N : Nat) (o : Oper) (c : COper) : Bool :=
  o.dst == c.dst && chkOp P o.op c.xs c.op && (match c.dst with | some d => decide (d < N) | none => true) &&
    (match o.guard, c.guard with | none, none => true | some (j, b), some (t, b') => (ops[j]?).bind (·.dst) == some t && b == b' | _, _ => false)

def chkList (P : Program) (ops : Array Oper) (N : Nat) : List Oper → List COper → Bool
  | [], [] => true
  | o :: os, c :: cs => chkOper P ops N o c && chkList P ops N os cs
  | _, _ => false

/-- The state of the walk within a region: these operations are still to come. -/
structure Mid (w0 : World) (Ws I0 : Nat → Prop) (G : Nat → Option AV) (C0 : Ctx) (N clk top : Nat) (rem : List Nat) (s : AS) (a : Act) (C : Ctx) : Prop where
  wr : WR w0 Ws I0 C
  m : C.m = s.2
  fr : FR C s.1 a
  gr : GR C G
  le : C0.Le C
  size : a.tmps.size = N
  defers : a.defers = []
  fresh : ∀ i ∈ rem, ¬ C.used (clk + i)
  top : ∀ k, C.used k → k < top
  one : ¬ C.used 1

section
variable {P : Program} {w0 : World} {Ws I0 : Nat → Prop} {G : Nat → Option AV} {C0 C : Ctx} {N clk top : Nat} {rem : List Nat} {s : AS} {a : Act} {ops : Array Oper}

theorem SV_bool {b : Bool} {y : Value} (h : SV C (.v (.bool b)) y) : y = .bool b := SV_v h

theorem wanted_eq {o : Oper} {c : COper} (hf : FR C s.1 a) (hc : chkOper P ops N o c = true) {b : Bool} (hw : wantV s.1 c.guard = some b) : Region.wanted o (yielded ops a.tmps) = b := by
  simp only [chkOper, Bool.and_eq_true] at hc
  obtain ⟨_, hg⟩ := hc
  unfold Region.wanted
  split at hg
  · rename_i h1 h2
    rw [h2] at hw
    simp only [wantV, Option.some.injEq] at hw
    simp [h1, hw]
  · rename_i j b1 t b2 h1 h2
    simp only [Bool.and_eq_true, beq_iff_eq] at hg
    obtain ⟨hg, rfl⟩ := hg
    rw [h2] at hw
    simp only [wantV] at hw
    split at hw
    · rename_i x hx
      simp only [Option.some.injEq] at hw
      obtain ⟨y, hy, hv⟩ := hf t _ hx
      rw [SV_bool hv] at hy
      rw [h1]
      simp only [yielded, hg, Option.bind_some, hy]
      subst hw
      cases x <;> cases b1 <;> rfl
    · rename_i hx
      simp only [Option.some.injEq] at hw
      obtain ⟨y, hy, hv⟩ := hf t _ hx
      have hv' : ∃ xs, y = .tuple xs ∧ SVs C [] xs.toList := hv
      obtain ⟨xs, rfl, _⟩ := hv'
      rw [h1]
      simp only [yielded, hg, Option.bind_some, hy]
      subst hw
      cases b1 <;> rfl
    · cases hw
  · cases hg

theorem FR_put {C' : Ctx} {c : COper} {av : AV} {y : Value} (hle : C.Le C') (hf : FR C s.1 a) (hd : (match c.dst with | some d => decide (d < N) | none => true) = true) (hN : a.tmps.size = N) (hv : SV C' av y) :
    FR C' (setd s.1 c.dst av) (a.put c.dst y) := by
  have hf' := hf.mono hle
  cases hc : c.dst with
  | none => exact hf'
  | some d =>
    rw [hc] at hd
    simp only [decide_eq_true_eq] at hd
    intro t x hx
    simp only [setd] at hx
    simp only [Act.put]
    by_cases e : t = d
    · subst e
      simp only [upd_same, Option.some.injEq] at hx
      subst hx
      exact ⟨y, by simp [hN, hd], hv⟩
    · rw [upd_other _ _ e] at hx
      obtain ⟨z, h1, h2⟩ := hf' t x hx
      refine ⟨z, ?_, h2⟩
      rw [Array.getElem?_setIfInBounds_ne (fun h => e h.symm)]
      exact h1

theorem put_size (a : Act) (d : Option Nat) (y : Value) : (a.put d y).tmps.size = a.tmps.size := by cases d <;> simp [Act.put]
theorem put_defers (a : Act) (d : Option Nat) (y : Value) : (a.put d y).defers = a.defers := by cases d <;> rfl

/-- One operation. -/
theorem mid_op {i : Nat} {o : Oper} {c : COper} {av : AV} {us : List (Nat × Option Loc)} {rd : List Nat} {Q : Exit → Act → World → Prop} {K : Act → World → Prop} (ho : ops[i]? = some o) (hc : chkOper P ops N o c = true) (hnd : rem.Nodup) (hi : i ∈ rem) (htop : clk + i < top) (hone : clk + i ≠ 1)
    (hm : Mid w0 Ws I0 G C0 N clk top rem s a C) (h : OpR P G (clk + i) c s av us rd) (hK : ∀ a' C', Mid w0 Ws I0 G C0 N clk top (rem.erase i) (s.after c av us) a' C' → K a' C'.w) : wpOp P ops Q i K a C.w := by
  unfold wpOp
  rw [ho]
  simp only
  have hc' := hc
  simp only [chkOper, Bool.and_eq_true, beq_iff_eq] at hc'
  obtain ⟨⟨⟨hdst, hop⟩, hdN⟩, _⟩ := hc'
  rcases h with ⟨k1, rfl, rfl, rfl⟩ | ⟨k1, vals, k2, k3⟩
  · rw [wanted_eq hm.fr hc k1, if_neg (by simp)]
    refine hK _ C ⟨hm.wr, hm.m, ?_, hm.gr, hm.le, by rw [put_size]; exact hm.size, by rw [put_defers]; exact hm.defers, fun j hj => hm.fresh j (List.mem_of_mem_erase hj), hm.top, hm.one⟩
    rw [hdst]
    exact FR_put (Ctx.Le.refl C) hm.fr hdN hm.size (show SV C (.tup []) undef from ⟨#[], rfl, rfl⟩)
  · rw [wanted_eq hm.fr hc k1, if_pos rfl]
    left
    have hsim : Sim P w0 Ws I0 C (clk + i) o a av us := by
      by_cases hcall : ∃ f, c.op = .call f
      · obtain ⟨f, hcf⟩ := hcall
        rw [hcf] at k3 hop
        obtain ⟨L, args, M, keep, res, M', T, h1, rfl, rfl, rfl⟩ := k3
        rw [← hm.m] at h1
        refine sim_call hm.wr hm.gr (hm.fresh i hi) h1 hop ?_
        have hop' := hop
        simp only [chkOp] at hop'
        split at hop' <;> first | (cases hop'; done) | skip
        rename_i f0 cargs cat heq
        simp only [Bool.and_eq_true] at hop'
        rw [heq]
        exact evs_ok hm.fr hm.gr hop'.2 k2
      · have e : step c.op vals s.2 (clk + i) (c.dst.getD 0) = some (av, us) := by
          revert k3
          cases hq : c.op <;> first | exact fun k3 => k3.1 | exact absurd ⟨_, hq⟩ hcall
        rw [← hm.m] at e
        exact (ok_all hop k2 hm.fr hm.gr hm.wr (hm.fresh i hi) e).sim
    refine hsim K Q fun y C' hv hle hwr hcm hu => ?_
    refine hK _ C' ⟨hwr, by rw [hcm, hm.m]; rfl, ?_, hm.gr.mono hle, hm.le.trans hle, by rw [put_size]; exact hm.size, by rw [put_defers]; exact hm.defers, fun j hj hu' => ?_, fun k hk => ?_, fun h1 => ?_⟩
    · rw [hdst]
      exact FR_put hle hm.fr hdN hm.size hv
    · have hne : j ≠ i := fun e => by
        subst e
        exact (List.Nodup.not_mem_erase hnd) hj
      rcases hu _ hu' with hu' | hu'
      · exact hm.fresh j (List.mem_of_mem_erase hj) hu'
      · omega
    · rcases hu k hk with hk | hk
      · exact hm.top k hk
      · omega
    · rcases hu 1 h1 with h1 | h1
      · exact hm.one h1
      · omega

theorem chkList_get : ∀ {os : List Oper} {cs : List COper} {i : Nat}, chkList P ops N os cs = true → os.length = cs.length ∧ ∀ o c, os[i]? = some o → cs[i]? = some c → chkOper P ops N o c = true
  | [], [], i, _ => by simp
  | o :: os, c :: cs, i, h => by
    simp only [chkList, Bool.and_eq_true] at h
    refine ⟨by simpa using (chkList_get (i := 0) h.2).1, fun o' c' h1 h2 => ?_⟩
    cases i with
    | zero => simp only [List.getElem?_cons_zero, Option.some.injEq] at h1 h2; subst h1 h2; exact h.1
    | succ i => exact (chkList_get (i := i) h.2).2 o' c' (by simpa using h1) (by simpa using h2)
  | [], _ :: _, _, h => by simp [chkList] at h
  | _ :: _, [], _, h => by simp [chkList] at h

/-- The operations, numbered. -/
def num : Nat → List COper → List (Nat × COper)
  | _, [] => []
  | i, c :: cs => (i, c) :: num (i + 1) cs

theorem num_fst : ∀ (i : Nat) (cs : List COper), (num i cs).map (·.1) = List.range' i cs.length
  | _, [] => rfl
  | i, c :: cs => by simp [num, num_fst (i + 1) cs, List.range'_succ]

theorem num_get : ∀ {i : Nat} {cs : List COper} {p : Nat × COper}, p ∈ num i cs → i ≤ p.1 ∧ cs[p.1 - i]? = some p.2
  | _, [], _, h => by cases h
  | i, c :: cs, p, h => by
    rcases List.mem_cons.1 h with rfl | h
    · simp
    · obtain ⟨h1, h2⟩ := num_get h
      refine ⟨by omega, ?_⟩
      rw [show p.1 - i = (p.1 - (i + 1)) + 1 by omega, List.getElem?_cons_succ]
      exact h2

/-- A region whose order is its text's. -/
theorem walk_ops {L : List (Nat × COper)} {Q : Exit → Act → World → Prop} (hops : ∀ i c, (i, c) ∈ L → ∃ o, ops[i]? = some o ∧ chkOper P ops N o c = true ∧ clk + i < top ∧ clk + i ≠ 1) (hnd : (L.map (·.1)).Nodup) {s' : AS} {lg : Log}
    (hm : Mid w0 Ws I0 G C0 N clk top (L.map (·.1)) s a C) (h : RunL P G clk L s lg s') (hQ : ∀ a' C', Mid w0 Ws I0 G C0 N clk top [] s' a' C' → Q .normal a' C'.w) : wpOps P ops Q (L.map (·.1)) a C.w := by
  induction L generalizing s a C lg with
  | nil =>
    obtain ⟨_, rfl⟩ := h
    exact hQ a C hm
  | cons p L ih =>
    obtain ⟨i, c⟩ := p
    obtain ⟨av, us, rd, lg', h1, _, h3⟩ := h
    obtain ⟨o, ho, hc, ht, h1'⟩ := hops i c List.mem_cons_self
    simp only [List.map_cons] at *
    rw [wpOps_cons]
    refine mid_op ho hc hnd List.mem_cons_self ht h1' hm h1 fun a' C' hm' => ?_
    rw [List.erase_cons_head] at hm'
    exact ih (fun j c hj => hops j c (List.mem_cons_of_mem _ hj)) (List.nodup_cons.1 hnd).2 hm' h3

end
end Go.Proofs.YtngemgmnpcaamaaDoor.WL
