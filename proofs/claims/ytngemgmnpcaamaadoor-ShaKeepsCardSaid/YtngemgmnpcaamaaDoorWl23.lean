/-
  REGIONS that draw their order.
-/
import Derived.Test.YtngemgmnpcaamaaDoorWl22
namespace Go.Proofs.YtngemgmnpcaamaaDoor.WL
open Go

def apartB (x y : COper) : Bool :=
  (match x.dst with | some d => !(y.looks.contains d) && !(y.dst == some d) | none => true) && (match y.dst with | some d => !(x.looks.contains d) | none => true)

theorem apartB_eq {x y : COper} (h : apartB x y = true) : slotsApart x y := by
  unfold apartB at h
  simp only [Bool.and_eq_true] at h
  obtain ⟨h1, h2⟩ := h
  refine ⟨fun d hd => ?_, fun d hd => ?_⟩
  · rw [hd] at h1
    simp only [Bool.and_eq_true, Bool.not_eq_true', beq_eq_false_iff_ne, ne_eq, List.contains_eq_mem, decide_eq_false_iff_not] at h1
    exact h1
  · rw [hd] at h2
    simpa using h2

def edges (o : Oper) : List Nat := (o.after.toList.filter fun e => Region.binds .any e).map (·.on)

def unionOf (A : List Nat) : List Nat → Nat
  | [] => 0
  | p :: ps => (2 ^ p ||| A.getD p 0) ||| unionOf A ps

/-- The order's table is right, and what it leaves open is apart, or is listed in D. -/
def ordRow (cs : List COper) (A : List Nat) (D : List (Nat × Nat)) (j : Nat) (o : Oper) (c : COper) : Bool :=
  (edges o).all (fun p => decide (p < j)) && (A.getD j 0 ||| unionOf A (edges o) == unionOf A (edges o)) &&
    (num 0 (cs.take j)).all fun p => (A.getD j 0).testBit p.1 ||
      (apartB p.2 c && (quiet p.2.op || quiet c.op || ((quiet p.2.op || looker p.2.op) && (quiet c.op || looker c.op)) || D.contains (p.1, j)))

def ordOk (cs : List COper) (A : List Nat) (D : List (Nat × Nat)) : Nat → List Oper → List COper → Bool
  | _, [], [] => true
  | j, o :: os, c :: rest => ordRow cs A D j o c && ordOk cs A D (j + 1) os rest
  | _, _, _ => false

theorem ordOk_get {cs : List COper} {A : List Nat} {D : List (Nat × Nat)} : ∀ {os : List Oper} {rest : List COper} {j i : Nat} {o : Oper} {c : COper}, ordOk cs A D j os rest = true → os[i]? = some o → rest[i]? = some c → ordRow cs A D (j + i) o c = true
  | [], _, _, _, _, _, _, h, _ => by simp at h
  | o :: os, [], _, _, _, _, h, _, _ => by simp [ordOk] at h
  | o :: os, c :: rest, j, 0, o', c', h, h1, h2 => by
    simp only [ordOk, Bool.and_eq_true] at h
    simp only [List.getElem?_cons_zero, Option.some.injEq] at h1 h2
    subst h1 h2
    exact h.1
  | o :: os, c :: rest, j, i + 1, o', c', h, h1, h2 => by
    simp only [ordOk, Bool.and_eq_true] at h
    have := ordOk_get (i := i) h.2 (by simpa using h1) (by simpa using h2)
    rwa [show j + 1 + i = j + (i + 1) by omega] at this

theorem unionOf_bit {A : List Nat} : ∀ {ps : List Nat} {i : Nat}, (unionOf A ps).testBit i = true → ∃ p ∈ ps, i = p ∨ (A.getD p 0).testBit i = true
  | [], _, h => by simp [unionOf] at h
  | p :: ps, i, h => by
    simp only [unionOf, Nat.testBit_or, Bool.or_eq_true, Nat.testBit_two_pow, decide_eq_true_eq] at h
    rcases h with (h | h) | h
    · exact ⟨p, List.mem_cons_self, .inl h.symm⟩
    · exact ⟨p, List.mem_cons_self, .inr h⟩
    · obtain ⟨q, hq, k⟩ := unionOf_bit h
      exact ⟨q, List.mem_cons_of_mem _ hq, k⟩

section
variable {ops : Array Oper} {cs : List COper} {A : List Nat} {D : List (Nat × Nat)}

theorem ord_at (h : ordOk cs A D 0 ops.toList cs = true) {j : Nat} {o : Oper} {c : COper} (ho : ops[j]? = some o) (hc : cs[j]? = some c) : ordRow cs A D j o c = true := by
  have := ordOk_get (i := j) h (by simpa using ho) hc
  rwa [Nat.zero_add] at this

/-- All that is ahead is listed. -/
theorem anc_listed (h : ordOk cs A D 0 ops.toList cs = true) (hlen : ops.size = cs.length) {T : Nat → Prop} (hT : ∀ j o, T j → ops[j]? = some o → ∀ p ∈ edges o, T p) (hin : ∀ j, T j → j < ops.size) :
    ∀ (j : Nat) (o : Oper), ops[j]? = some o → (∀ p ∈ edges o, T p) → ∀ i, (A.getD j 0).testBit i = true → T i := by
  intro j
  induction j using Nat.strongRecOn with
  | _ j ih =>
    intro o ho hp i hi
    have hj : j < cs.length := by
      have := (Array.getElem?_eq_some_iff.1 ho).1
      omega
    have hr := ord_at h ho (List.getElem?_eq_getElem hj)
    simp only [ordRow, Bool.and_eq_true, beq_iff_eq] at hr
    obtain ⟨⟨h1, h2⟩, _⟩ := hr
    have hu : (unionOf A (edges o)).testBit i = true := by
      rw [← h2, Nat.testBit_or, hi, Bool.true_or]
    obtain ⟨p, hpe, k⟩ := unionOf_bit hu
    rcases k with rfl | k
    · exact hp _ hpe
    · have hlt : p < j := by simpa using (List.all_eq_true.1 h1) p hpe
      have hTp := hp p hpe
      have hps := hin p hTp
      exact ih p hlt ops[p] (Array.getElem?_eq_getElem hps) (fun q hq => hT p ops[p] hTp (Array.getElem?_eq_getElem hps) q hq) i k
end

/-- The listed pairs are apart in memory. -/
def lgAt (lg : Log) (i : Nat) : List Nat × List Nat := (look lg i).getD ([], [])
def dynOk (lg : Log) : List (Nat × Nat) → Prop
  | [] => True
  | p :: D => memApart (lgAt lg p.1) (lgAt lg p.2) ∧ dynOk lg D

theorem dynOk_mem {lg : Log} : ∀ {D : List (Nat × Nat)} {p : Nat × Nat}, dynOk lg D → p ∈ D → memApart (lgAt lg p.1) (lgAt lg p.2)
  | [], _, _, h => by cases h
  | q :: D, p, h, hm => by
    rcases List.mem_cons.1 hm with rfl | hm
    · exact h.1
    · exact dynOk_mem h.2 hm

theorem dynOk_mono {lg lg' : Log} (h : ∀ j, lgAt lg' j = lgAt lg j ∨ lgAt lg' j = ([], [])) : ∀ {D : List (Nat × Nat)}, dynOk lg D → dynOk lg' D
  | [], _ => trivial
  | p :: D, hd => by
    refine ⟨?_, dynOk_mono h hd.2⟩
    have h1 := hd.1
    rcases h p.1 with e1 | e1 <;> rcases h p.2 with e2 | e2 <;> rw [e1, e2]
    · exact h1
    · refine ⟨fun l _ => ⟨fun hl => (by cases hl), fun hl => (by cases hl)⟩, fun l hl => (by cases hl)⟩
    · refine ⟨fun l hl => (by cases hl), fun l _ hl => (by cases hl)⟩
    · refine ⟨fun l hl => (by cases hl), fun l hl => (by cases hl)⟩

section
variable {P : Program} {G : Nat → Option AV} {clk : Nat}

/-- What the log tells of each operation. -/
def LogOk (L : List (Nat × COper)) (lg : Log) : Prop := ∀ e ∈ lg, ∃ c, (e.1, c) ∈ L ∧ (quiet c.op = true → e.2 = ([], [])) ∧ ((quiet c.op || looker c.op) = true → e.2.2 = [])

theorem RunL_log : ∀ {L : List (Nat × COper)} {s s' : AS} {lg : Log}, RunL P G clk L s lg s' → LogOk L lg ∧ lg.map (·.1) = L.map (·.1)
  | [], _, _, lg, h => by
    obtain ⟨rfl, _⟩ := h
    exact ⟨fun e he => (by cases he), rfl⟩
  | (i, c) :: r, s, s', lg, h => by
    obtain ⟨av, us, rd, lg', h1, rfl, h3⟩ := h
    obtain ⟨k1, k2⟩ := RunL_log h3
    refine ⟨fun e he => ?_, by simp [k2]⟩
    rcases List.mem_cons.1 he with rfl | he
    · refine ⟨c, List.mem_cons_self, ?_, ?_⟩
      · intro hq
        rcases h1 with ⟨_, _, rfl, rfl⟩ | ⟨_, vals, _, h1⟩
        · rfl
        · have e : step c.op vals s.2 (clk + i) (c.dst.getD 0) = some (av, us) ∧ rd = reads c.op vals := by
            revert h1 hq
            cases c.op <;> first | exact fun _ h => h | (intro hq; simp [quiet] at hq)
          have := quiet_us (by rw [hq]; rfl) e.1
          rw [this, e.2]
          simp [reads, hq]
      · intro hq
        rcases h1 with ⟨_, _, rfl, rfl⟩ | ⟨_, vals, _, h1⟩
        · rfl
        · have e : step c.op vals s.2 (clk + i) (c.dst.getD 0) = some (av, us) := by
            revert h1 hq
            cases c.op <;> first | exact fun _ h => h.1 | (intro hq; simp [quiet, looker] at hq)
          rw [quiet_us hq e]
          rfl
    · obtain ⟨c', h1, h2⟩ := k1 e he
      exact ⟨c', List.mem_cons_of_mem _ h1, h2⟩

theorem look_nodup {α : Type} {l : List (Nat × α)} {e : Nat × α} (hn : (l.map (·.1)).Nodup) (h : e ∈ l) : look l e.1 = some e.2 := look_of_mem hn h
end

section
variable {P : Program} {w0 : World} {Ws I0 : Nat → Prop} {G : Nat → Option AV} {C0 : Ctx} {N clk top : Nat} {ops : Array Oper} {cs : List COper} {A : List Nat} {D : List (Nat × Nat)}

theorem Mid.sub {rem rem' : List Nat} {s : AS} {a : Act} {C : Ctx} (h : Mid w0 Ws I0 G C0 N clk top rem s a C) (hs : ∀ i ∈ rem', i ∈ rem) : Mid w0 Ws I0 G C0 N clk top rem' s a C :=
  ⟨h.wr, h.m, h.fr, h.gr, h.le, h.size, h.defers, fun i hi => h.fresh i (hs i hi), h.top, h.one⟩

theorem num_sorted {cs : List COper} {i : Nat} : (num i cs).Pairwise fun p q => p.1 < q.1 := by
  induction cs generalizing i with
  | nil => exact List.Pairwise.nil
  | cons c cs ih =>
    refine List.Pairwise.cons (fun q hq => ?_) ih
    have := (num_get hq).1
    simp only
    omega

theorem num_mem {cs : List COper} {i j : Nat} {c : COper} (h : cs[j]? = some c) : (i + j, c) ∈ num i cs := by
  induction cs generalizing i j with
  | nil => simp at h
  | cons x cs ih =>
    cases j with
    | zero => simp only [List.getElem?_cons_zero, Option.some.injEq] at h; subst h; exact List.mem_cons_self
    | succ j =>
      simp only [List.getElem?_cons_succ] at h
      have := ih (i := i + 1) h
      rw [show i + 1 + j = i + (j + 1) by omega] at this
      exact List.mem_cons_of_mem _ this

theorem walk_any {Q : Exit → Act → World → Prop} (hchk : chkList P ops N ops.toList cs = true) (hord : ordOk cs A D 0 ops.toList cs = true) (htop : ∀ i, i < cs.length → clk + i < top ∧ clk + i ≠ 1) {s' : AS}
    (hQ : ∀ a' C', Mid w0 Ws I0 G C0 N clk top [] s' a' C' → Q .normal a' C'.w) :
    ∀ (fuel : Nat) (listed : Array Bool) (L : List (Nat × COper)) (s : AS) (a : Act) (C : Ctx) (lg : Log), listed.size = ops.size → L = (num 0 cs).filter (fun p => !listed.getD p.1 true) → L.length = fuel →
      (∀ j o, listed.getD j false = true → ops[j]? = some o → ∀ p ∈ edges o, listed.getD p false = true) → (lg.map (·.1)).Nodup → dynOk lg D →
      Mid w0 Ws I0 G C0 N clk top (L.map (·.1)) s a C → RunL P G clk L s lg s' → wpAny P .any ops Q fuel listed a C.w := by
  have hlen : ops.size = cs.length := by simpa using (chkList_get (i := 0) hchk).1
  have hbd : ∀ (listed : Array Bool) i, listed.size = ops.size → i < ops.size → listed.getD i true = listed.getD i false := by
    intro listed i h1 h2
    simp [Array.getD, h1, h2]
  intro fuel
  induction fuel with
  | zero =>
    intro listed L s a C lg hsz hL hlen0 hT hnd hdyn hm hrun
    have hL0 : L = [] := List.eq_nil_of_length_eq_zero hlen0
    subst hL0
    obtain ⟨_, rfl⟩ := hrun
    refine ⟨?_, hQ a C hm⟩
    unfold Region.ready
    rw [List.filter_eq_nil_iff]
    intro i hi
    simp only [List.mem_range] at hi
    have hmem : (0 + i, cs[i]'(by omega)) ∈ num 0 cs := num_mem (List.getElem?_eq_getElem (by omega))
    rw [Nat.zero_add] at hmem
    have := hL
    have hno : ¬ (!listed.getD i true) = true := by
      intro hx
      have : (i, cs[i]'(by omega)) ∈ (num 0 cs).filter (fun p => !listed.getD p.1 true) := List.mem_filter.2 ⟨hmem, hx⟩
      rw [← hL] at this
      cases this
    simp only [Bool.and_eq_true, not_and]
    intro hx
    exact absurd hx hno
  | succ fuel ih =>
    intro listed L s a C lg hsz hL hlen0 hT hnd hdyn hm hrun
    have hmemL : ∀ {i c}, (i, c) ∈ L → i < ops.size ∧ cs[i]? = some c ∧ listed.getD i true = false := by
      intro i c h
      rw [hL] at h
      obtain ⟨h1, h2⟩ := List.mem_filter.1 h
      have h3 := (num_get h1).2
      simp only [Nat.sub_zero] at h3
      refine ⟨?_, h3, by simpa using h2⟩
      have := (List.getElem?_eq_some_iff.1 h3).1
      omega
    have hsorted : L.Pairwise fun p q => p.1 < q.1 := by rw [hL]; exact List.Pairwise.filter _ num_sorted
    have hndL : (L.map (·.1)).Nodup := by
      rw [List.nodup_iff_pairwise_ne, List.pairwise_map]
      exact hsorted.imp fun h => Nat.ne_of_lt h
    have hready : ∀ i, i ∈ Region.ready .any ops listed ↔ i < ops.size ∧ listed.getD i true = false ∧ ∃ o, ops[i]? = some o ∧ ∀ p ∈ edges o, listed.getD p false = true := by
      intro i
      unfold Region.ready
      simp only [List.mem_filter, List.mem_range, Bool.and_eq_true, Bool.not_eq_true']
      constructor
      · rintro ⟨h1, h2, h3⟩
        refine ⟨h1, h2, ops[i], Array.getElem?_eq_getElem h1, fun p hp => ?_⟩
        rw [Array.getElem?_eq_getElem h1] at h3
        simp only [Option.map_some, Option.getD_some] at h3
        rw [Array.all_eq_true'] at h3
        obtain ⟨e, he, rfl⟩ := List.mem_map.1 hp
        obtain ⟨he1, he2⟩ := List.mem_filter.1 he
        have := h3 e (by simpa using he1)
        simpa [he2] using this
      · rintro ⟨h1, h2, o, ho, h3⟩
        refine ⟨h1, h2, ?_⟩
        rw [ho]
        simp only [Option.map_some, Option.getD_some]
        rw [Array.all_eq_true']
        intro e he
        cases hb : Region.binds .any e with
        | false => rfl
        | true =>
          have := h3 e.on (List.mem_map.2 ⟨e, List.mem_filter.2 ⟨by simpa using he, hb⟩, rfl⟩)
          simpa using this
    refine ⟨fun hnil => ?_, fun i hi => ?_⟩
    · -- the least one is ready
      exfalso
      cases L with
      | nil => simp at hlen0
      | cons p L' =>
        obtain ⟨i, c⟩ := p
        obtain ⟨h1, h2, h3⟩ := hmemL List.mem_cons_self
        have : i ∈ Region.ready .any ops listed := by
          rw [hready]
          refine ⟨h1, h3, ops[i], Array.getElem?_eq_getElem h1, fun p hp => ?_⟩
          have hr := ord_at hord (Array.getElem?_eq_getElem h1) h2
          simp only [ordRow, Bool.and_eq_true] at hr
          have hlt : p < i := by simpa using (List.all_eq_true.1 hr.1.1) p hp
          rw [← hbd listed p hsz (by omega)]
          cases hq : listed.getD p true with
          | true => rfl
          | false =>
            exfalso
            have hpm : (p, cs[p]'(by omega)) ∈ (i, c) :: L' := by
              rw [hL]
              have := num_mem (i := 0) (j := p) (cs := cs) (List.getElem?_eq_getElem (by omega))
              rw [Nat.zero_add] at this
              exact List.mem_filter.2 ⟨this, by simp [hq]⟩
            rcases List.mem_cons.1 hpm with e | hpm
            · have : p = i := congrArg Prod.fst e
              omega
            · have := (List.pairwise_cons.1 hsorted).1 _ hpm
              simp only at this
              omega
        rw [hnil] at this
        cases this
    · obtain ⟨h1, h2, o, ho, h3⟩ := (hready i).1 hi
      obtain ⟨x, hci⟩ : ∃ x, cs[i]? = some x := ⟨cs[i]'(by omega), List.getElem?_eq_getElem (by omega)⟩
      have hmem : (i, x) ∈ L := by
        rw [hL]
        have := num_mem (i := 0) hci
        rw [Nat.zero_add] at this
        exact List.mem_filter.2 ⟨this, by simp only [h2, Bool.not_false]⟩
      obtain ⟨B1, B2, hsplit⟩ := List.append_of_mem hmem
      have hlogs := RunL_log hrun
      have hrow := ord_at hord ho hci
      simp only [ordRow, Bool.and_eq_true] at hrow
      have hap : ∀ b ∈ B1, slotsApart b.2 x ∧ ∀ ea ∈ lg, ∀ ex ∈ lg, ea.1 = b.1 → ex.1 = i → memApart ea.2 ex.2 := by
        rintro ⟨j, y⟩ hb
        have hbL : (j, y) ∈ L := by rw [hsplit]; exact List.mem_append_left _ hb
        obtain ⟨k1, k2, k3⟩ := hmemL hbL
        have hlt : j < i := by
          rw [hsplit, List.pairwise_append] at hsorted
          exact hsorted.2.2 _ hb _ List.mem_cons_self
        have hbit : (A.getD i 0).testBit j = false := by
          cases hq : (A.getD i 0).testBit j with
          | false => rfl
          | true =>
            have := anc_listed hord hlen (T := fun j => listed.getD j false = true) (fun j o hj ho p hp => hT j o hj ho p hp) (fun j hj => by
              rcases Nat.lt_or_ge j ops.size with h | h
              · exact h
              · simp [Array.getD, hsz, Nat.not_lt.2 h] at hj) i o ho h3 j hq
            rw [← hbd listed j hsz k1, k3] at this
            cases this
        have hpair := (List.all_eq_true.1 hrow.2) (j, y) (by
          have : (cs.take i)[j]? = some y := by rw [List.getElem?_take, if_pos hlt]; exact k2
          have := num_mem (i := 0) this
          rwa [Nat.zero_add] at this)
        simp only [hbit, Bool.false_or, Bool.and_eq_true] at hpair
        refine ⟨apartB_eq hpair.1, fun ea hea ex hex e1 e2 => ?_⟩
        obtain ⟨ca, hca, qa1, qa2⟩ := hlogs.1 ea hea
        obtain ⟨cx, hcx, qx1, qx2⟩ := hlogs.1 ex hex
        have eca : ca = y := by
          have h5 := (hmemL hca).2.1
          rw [e1] at h5
          rw [k2] at h5
          exact (Option.some.inj h5).symm
        have ecx : cx = x := by
          have h5 := (hmemL hcx).2.1
          rw [e2, hci] at h5
          exact (Option.some.inj h5).symm
        subst eca ecx
        have hp2 := hpair.2
        simp only [Bool.or_eq_true, Bool.and_eq_true] at hp2
        rcases hp2 with ((h | h) | h) | h
        · rw [qa1 h]; exact ⟨fun l hl => (by cases hl), fun l _ hl => (by cases hl)⟩
        · rw [qx1 h]; exact ⟨fun l _ => ⟨fun hl => (by cases hl), fun hl => (by cases hl)⟩, fun l hl => (by cases hl)⟩
        · have w1 := qa2 (by simpa using h.1)
          have w2 := qx2 (by simpa using h.2)
          refine ⟨fun l hl => ?_, fun l hl => ?_⟩
          · rw [w1] at hl; cases hl
          · rw [w2] at hl; cases hl
        · have hd := dynOk_mem hdyn (by simpa using h : (j, i) ∈ D)
          simp only [lgAt] at hd
          rw [show j = ea.1 from e1.symm, show i = ex.1 from e2.symm, look_nodup hnd hea, look_nodup hnd hex] at hd
          exact hd
      rw [hsplit] at hrun
      obtain ⟨ex, lg', ⟨av, us, rd, lg2, r1, r2, r3⟩, g2, g3⟩ := RunL_front hrun hap
      simp only [List.cons.injEq] at r2
      obtain ⟨_, rfl⟩ := r2
      have hck := (chkList_get (i := i) hchk).2 o _ (by simpa using ho) hci
      have hmi : i ∈ L.map (·.1) := List.mem_map.2 ⟨_, hmem, rfl⟩
      refine mid_op ho hck hndL hmi (htop i (by omega)).1 (htop i (by omega)).2 hm r1 fun a' C' hm' => ?_
      have hlist' : ∀ j, (listed.setIfInBounds i true).getD j true = (listed.getD j true || decide (j = i)) := by
        intro j
        by_cases e : j = i
        · subst e; simp [Array.getD, hsz, h1]
        · simp only [Array.getD_eq_getD_getElem?, Array.getElem?_setIfInBounds_ne (Ne.symm e)]; simp [e]
      have hlist2 : ∀ j, (listed.setIfInBounds i true).getD j false = true ↔ (listed.getD j false = true ∨ j = i) := by
        intro j
        by_cases e : j = i
        · subst e; simp [Array.getD, hsz, h1]
        · simp only [Array.getD_eq_getD_getElem?, Array.getElem?_setIfInBounds_ne (Ne.symm e)]; simp [e]
      have hB : B1 ++ B2 = (num 0 cs).filter (fun p => !(listed.setIfInBounds i true).getD p.1 true) := by
        have e1 : (num 0 cs).filter (fun p => !(listed.setIfInBounds i true).getD p.1 true) = L.filter (fun p => decide (p.1 ≠ i)) := by
          rw [hL, List.filter_filter]
          refine List.filter_congr fun p _ => ?_
          rw [hlist' p.1]
          by_cases e : p.1 = i <;> simp [e]
        rw [e1, hsplit, List.filter_append, List.filter_cons_of_neg (by simp)]
        rw [hsplit, List.map_append, List.map_cons] at hndL
        have hnd1 := List.nodup_append.1 hndL
        congr 1
        · refine (List.filter_eq_self.2 fun p hp => ?_).symm
          have := hnd1.2.2 p.1 (List.mem_map.2 ⟨p, hp, rfl⟩) i List.mem_cons_self
          simpa using this
        · refine (List.filter_eq_self.2 fun p hp => ?_).symm
          have := (List.nodup_cons.1 hnd1.2.1).1
          have hne : p.1 ≠ i := fun e => this (e ▸ List.mem_map.2 ⟨p, hp, rfl⟩)
          simpa using hne
      have hlgs := RunL_log r3
      have hsub : ∀ e ∈ lg', e ∈ lg := g3
      refine ih (listed.setIfInBounds i true) (B1 ++ B2) _ a' C' lg' (by simp [hsz]) hB ?_ ?_ ?_ ?_ (hm'.sub fun j hj => ?_) r3
      · rw [hsplit] at hlen0
        simp only [List.length_append, List.length_cons] at hlen0 ⊢
        omega
      · intro j oj hj hoj p hp
        rw [hlist2] at hj ⊢
        rcases hj with hj | rfl
        · exact .inl (hT j oj hj hoj p hp)
        · rw [ho] at hoj
          obtain rfl := Option.some.inj hoj
          exact .inl (h3 p hp)
      · rw [hlgs.2]
        rw [hsplit, List.map_append, List.map_cons] at hndL
        have hnd1 := List.nodup_append.1 hndL
        rw [List.map_append]
        refine List.nodup_append.2 ⟨hnd1.1, (List.nodup_cons.1 hnd1.2.1).2, fun x hx y hy => hnd1.2.2 x hx y (List.mem_cons_of_mem _ hy)⟩
      · have hnd' : (lg'.map (·.1)).Nodup := by
          rw [hlgs.2]
          rw [hsplit, List.map_append, List.map_cons] at hndL
          have hnd1 := List.nodup_append.1 hndL
          rw [List.map_append]
          exact List.nodup_append.2 ⟨hnd1.1, (List.nodup_cons.1 hnd1.2.1).2, fun x hx y hy => hnd1.2.2 x hx y (List.mem_cons_of_mem _ hy)⟩
        have hlook : ∀ j, lgAt lg' j = lgAt lg j ∨ lgAt lg' j = ([], []) := by
          intro j
          unfold lgAt
          cases hq : look lg' j with
          | none => exact .inr rfl
          | some v => left; rw [look_nodup hnd (hsub _ (look_mem hq))]
        exact dynOk_mono hlook hdyn
      · rw [List.mem_map] at hj
        obtain ⟨p, hp, rfl⟩ := hj
        refine (List.mem_erase_of_ne ?_).2 (List.mem_map.2 ⟨p, by rw [hsplit]; rcases List.mem_append.1 hp with hp | hp; exact List.mem_append_left _ hp; exact List.mem_append_right _ (List.mem_cons_of_mem _ hp), rfl⟩)
        rw [hsplit, List.map_append, List.map_cons] at hndL
        have hnd1 := List.nodup_append.1 hndL
        rcases List.mem_append.1 hp with hp | hp
        · have := hnd1.2.2 p.1 (List.mem_map.2 ⟨p, hp, rfl⟩) i List.mem_cons_self
          simpa using this
        · have := (List.nodup_cons.1 hnd1.2.1).1
          exact fun e => this (e ▸ List.mem_map.2 ⟨p, hp, rfl⟩)

end
end Go.Proofs.YtngemgmnpcaamaaDoor.WL
