/-
  FUNCTIONS: from the abstract machine's walk to the contract.
-/
import Derived.Test.YtngemgmnpcaamaaDoorWl24
namespace Go.Proofs.YtngemgmnpcaamaaDoor.WL
open Go

inductive CRes where
  | tmp (t : Nat)
  | cell (t : Nat) (agg : Bool) (sz : Nat)

def chkRes (P : Program) : List ResultVar → List CRes → Bool
  | [], [] => true
  | .tmp t :: rs, .tmp u :: cs => t == u && chkRes P rs cs
  | .cell a t :: rs, .cell u agg sz :: cs => a == u && tagg P t == some agg && tsz P t == some sz && aggOk agg sz && chkRes P rs cs
  | _, _ => false

def chkFn (P : Program) (f : Nat) (x : CCode) (rs : List CRes) (n : Nat) : Bool :=
  match P.funcs[f]? with
  | some fn => match fn.body with
    | some code => chkCode P fn.ntmps code x && chkRes P fn.results.toList rs && decide (n ≤ fn.ntmps)
    | none => false
  | none => false

def AV.isTup : AV → Bool
  | .tup _ => true
  | _ => false

def rawRes (fr : Nat → Option AV) (m : Nat → Option Loc) : List CRes → Option (List AV)
  | [] => some []
  | .tmp t :: rs => (fr t).bind fun x => if x.isTup = true then none else (rawRes fr m rs).map (x :: ·)
  | .cell t agg sz :: rs => (fr t).bind fun p => (loadA m agg sz p).bind fun x => if x.isTup = true then none else (rawRes fr m rs).map (x :: ·)

def raw1 : List AV → AV
  | [x] => x
  | xs => .tup xs

def FitR (m : Nat → Option Loc) (L : Names) (raw want : AV) : Prop :=
  match want with
  | .tup ws => match raw with
    | .tup rs => FitL m L rs ws
    | _ => False
  | w => Fit m L raw w

def touchR (m : Nat → Option Loc) (raw want : AV) : List Nat :=
  match want with
  | .tup ws => match raw with
    | .tup rs => touchL m rs ws
    | _ => []
  | w => touch m raw w

/-- What a function's end must show. -/
structure Ends (m : Nat → Option Loc) (raw res : AV) (M' : List (Nat × Loc)) (L : Names) (T : List Nat) : Prop where
  fit : FitR m L raw res
  lent : ∀ t ∈ touchR m raw res, t ∈ T
  st : Stamped (fun g => g = 0 ∨ g = 1) res
  named : Named m L M' T (fun g => g = 0 ∨ g = 1)
  old : ∀ e ∈ M', e.2.gen = 0 → look L e.1 = some (some (e.1, 0))

def postA (rs : List CRes) (res : AV) (M' : List (Nat × Loc)) : Exit → SA → Prop := fun e S => (e = .normal ∨ e = .ret) ∧ ∃ xs L T, rawRes (look S.fr) (look S.m) rs = some xs ∧ Ends (look S.m) (raw1 xs) res M' L T

def argsL : Nat → List AV → List (Nat × AV)
  | _, [] => []
  | i, a :: as => (i, a) :: argsL (i + 1) as

theorem look_argsL : ∀ {i : Nat} {as : List AV} {t : Nat} {x : AV}, look (argsL i as) t = some x → i ≤ t ∧ as[t - i]? = some x
  | _, [], _, _, h => by simp [argsL, look] at h
  | i, a :: as, t, x, h => by
    simp only [argsL, look] at h
    split at h
    · rename_i e
      subst e
      exact ⟨Nat.le_refl _, by simpa using h⟩
    · rename_i e
      obtain ⟨h1, h2⟩ := look_argsL h
      refine ⟨by omega, ?_⟩
      rw [show t - i = (t - (i + 1)) + 1 by omega, List.getElem?_cons_succ]
      exact h2

theorem SVl_get {C : Ctx} : ∀ {as : List AV} {ys : List Value} {k : Nat} {x : AV}, SVl C as ys → as[k]? = some x → ∃ y, ys[k]? = some y ∧ SV C x y
  | [], _, _, _, _, h => by simp at h
  | a :: as, ys, 0, x, h, hx => by
    obtain ⟨y, r, rfl, h1, _⟩ := h
    simp only [List.getElem?_cons_zero, Option.some.injEq] at hx
    subst hx
    exact ⟨y, rfl, h1⟩
  | a :: as, ys, k + 1, x, h, hx => by
    obtain ⟨y, r, rfl, _, h2⟩ := h
    obtain ⟨z, h3, h4⟩ := SVl_get (k := k) h2 (by simpa using hx)
    exact ⟨z, by simpa using h3, h4⟩

theorem SVl_length {C : Ctx} : ∀ {as : List AV} {ys : List Value}, SVl C as ys → ys.length = as.length
  | [], _, h => by simp only [SVl] at h; simp [h]
  | _ :: as, _, h => by
    obtain ⟨y, r, rfl, _, h2⟩ := h
    simp [SVl_length h2]

theorem SV1_of {C : Ctx} {a : AV} {x : Value} (h : SV C a x) (ht : a.isTup = false) : SV1 C a x := by
  cases a <;> first | exact h | (simp [AV.isTup] at ht)

section
variable {P : Program} {w0 : World} {Ws I0 : Nat → Prop} {C : Ctx} {fr : Nat → Option AV}

theorem run_resultsL (hw : WR w0 Ws I0 C) {a : Act} (hf : FR C fr a) : ∀ {rs : List ResultVar} {cs : List CRes} {xs : List AV}, chkRes P rs cs = true → rawRes fr C.m cs = some xs →
    ∃ ys, (rs.mapM (m := Sem) fun | .tmp t => pure (a.tmps.getD t undef) | .cell b t => do loadVar t (← asAddr (a.tmps.getD b undef))).run P C.w = .ok ys C.w ∧ SVs C xs ys
  | [], [], xs, _, h => by
    simp only [rawRes, Option.some.injEq] at h
    subst h
    exact ⟨[], by simp, rfl⟩
  | .tmp t :: rs, .tmp u :: cs, xs, hc, h => by
    simp only [chkRes, Bool.and_eq_true, beq_iff_eq] at hc
    obtain ⟨rfl, hc⟩ := hc
    simp only [rawRes, Option.bind_eq_some_iff] at h
    obtain ⟨x, hx, h⟩ := h
    split at h
    · cases h
    · rename_i ht
      simp only [Option.map_eq_some_iff] at h
      obtain ⟨xs', h1, rfl⟩ := h
      obtain ⟨y, hy, hv⟩ := hf t x hx
      obtain ⟨ys, k1, k2⟩ := run_resultsL hw hf hc h1
      refine ⟨y :: ys, ?_, y, ys, rfl, SV1_of hv (by simpa using ht), k2⟩
      have hgd : a.tmps.getD t undef = y := by rw [Array.getD_eq_getD_getElem?, hy]; rfl
      simp only [List.mapM_cons, Sem.run_bind, Sem.run_pure, Result.andThen_ok, hgd, k1]
  | .cell b t :: rs, .cell u agg sz :: cs, xs, hc, h => by
    simp only [chkRes, Bool.and_eq_true, beq_iff_eq] at hc
    obtain ⟨⟨⟨⟨rfl, ha⟩, hs⟩, hag⟩, hc⟩ := hc
    simp only [rawRes, Option.bind_eq_some_iff] at h
    obtain ⟨p, hp, x, hx, h⟩ := h
    split at h
    · cases h
    · rename_i ht
      simp only [Option.map_eq_some_iff] at h
      obtain ⟨xs', h1, rfl⟩ := h
      obtain ⟨y, hy, hv⟩ := hf b p hp
      obtain ⟨ys, k1, k2⟩ := run_resultsL hw hf hc h1
      unfold loadA at hx
      obtain ⟨⟨z, off⟩, h2, h3⟩ := Option.bind_eq_some_iff.1 hx
      obtain ⟨bb, base, cs', q1, q2, rfl⟩ := deref_ok hw hv h2
      obtain ⟨s1, s2, s3, s4⟩ := sub_ok z off x cs' h3 q1
      have hr := run_loadVar (P := P) ha hs s4 (aggOk_eq hag) (q2.part off sz)
      have hval := SV_valOf s1 s3 (fun e => by rw [s4]; exact aggOk_eq hag e)
      refine ⟨valOf agg ((cs'.drop off).take sz) :: ys, ?_, _, ys, rfl, SV1_of hval (by simpa using ht), k2⟩
      have hgd : a.tmps.getD b undef = .pointer (some ⟨bb, base + off, none⟩) := by rw [Array.getD_eq_getD_getElem?, hy]; rfl
      have hal : (asAddr (.pointer (some ⟨bb, base + off, none⟩))).run P C.w = .ok ⟨bb, base + off, none⟩ C.w := by simp [asAddr]
      simp only [List.mapM_cons, Sem.run_bind, Sem.run_pure, Result.andThen_ok, hgd, hal, hr, k1]
  | [], _ :: _, _, hc, _ => by simp [chkRes] at hc
  | .tmp _ :: _, [], _, hc, _ => by simp [chkRes] at hc
  | .cell .. :: _, [], _, hc, _ => by simp [chkRes] at hc
  | .tmp _ :: _, .cell .. :: _, _, hc, _ => by simp [chkRes] at hc
  | .cell .. :: _, .tmp _ :: _, _, hc, _ => by simp [chkRes] at hc

theorem SVs_length : ∀ {as : List AV} {ys : List Value}, SVs C as ys → ys.length = as.length
  | [], _, h => by simp only [SVs] at h; simp [h]
  | _ :: as, _, h => by
    obtain ⟨y, r, rfl, _, h2⟩ := h
    simp [SVs_length h2]

theorem run_results (hw : WR w0 Ws I0 C) {a : Act} (hf : FR C fr a) {fn : Func} {cs : List CRes} {xs : List AV} (hc : chkRes P fn.results.toList cs = true) (h : rawRes fr C.m cs = some xs) :
    ∃ y, (results fn a.tmps).run P C.w = .ok y C.w ∧ SV C (raw1 xs) y := by
  obtain ⟨ys, h1, h2⟩ := run_resultsL hw hf hc h
  have hl := SVs_length h2
  have hrun : (fn.results.mapM (m := Sem) fun | .tmp t => pure (a.tmps.getD t undef) | .cell b t => do loadVar t (← asAddr (a.tmps.getD b undef))).run P C.w = .ok ys.toArray C.w := by
    rw [Array.mapM_eq_mapM_toList]
    simp only [Sem.run_map, h1, Result.andThen_ok]
  refine ⟨if h : ys.toArray.size = 1 then ys.toArray[0] else .tuple ys.toArray, ?_, ?_⟩
  · unfold results
    rw [Sem.run_bind]
    refine (congrArg (fun r => Result.andThen r _) hrun).trans ?_
    simp only [Result.andThen_ok, Sem.run_pure]
  · match xs, ys, h2, hl with
    | [x], [y], h2, _ =>
      obtain ⟨y', r, e, h3, _⟩ := h2
      obtain ⟨rfl, rfl⟩ := (by simpa using e : y = y' ∧ [] = r)
      simpa [raw1] using SV_of1 h3
    | [], [], h2, _ => exact ⟨#[], rfl, rfl⟩
    | x :: x' :: xs, y :: y' :: ys, h2, _ => exact ⟨(y :: y' :: ys).toArray, by simp, h2⟩

theorem SVs_fit {C' : Ctx} {L : Names} {T : List Nat} (hw : WR w0 Ws I0 C) (hs : Seen C C' L T) : ∀ {wants raws : List AV} {ys : List Value}, FitL C.m L raws wants → (∀ l ∈ touchL C.m raws wants, l ∈ T) →
    StampedL C'.used wants → SVs C raws ys → SVs C' wants ys
  | [], raws, ys, h, _, _, k => by simp only [FitL] at h; subst h; exact k
  | w :: ws, raws, ys, h, ht, hst, k => by
    simp only [FitL] at h
    obtain ⟨r, rs', rfl, h1, h2⟩ := h
    obtain ⟨y, ys', e, k1, k2⟩ := k
    simp only [touchL, StampedL] at ht hst
    have hv := SV_fit hw hs h1 (fun t htt => ht t (List.mem_append_left _ htt)) hst.1 (SV_of1 k1)
    have hnt : w.isTup = false := by cases w <;> first | rfl | (simp [Fit] at h1)
    exact ⟨y, ys', e, SV1_of hv hnt, SVs_fit hw hs h2 (fun t htt => ht t (List.mem_append_right _ htt)) hst.2 k2⟩

theorem SV_fitR {C' : Ctx} {L : Names} {T : List Nat} (hw : WR w0 Ws I0 C) (hs : Seen C C' L T) {raw want : AV} {x : Value} (h : FitR C.m L raw want) (ht : ∀ l ∈ touchR C.m raw want, l ∈ T) (hst : Stamped C'.used want) (k : SV C raw x) : SV C' want x := by
  cases want with
  | tup ws =>
    simp only [FitR] at h
    split at h <;> first | (cases h; done) | skip
    obtain ⟨xs, e, k⟩ := k
    simp only [touchR, Stamped] at ht hst
    exact ⟨xs, e, SVs_fit hw hs h ht hst k⟩
  | _ => exact SV_fit hw hs h ht hst k

end

theorem meets_of_awp {P : Program} {G : Nat → Option AV} {f : Nat} {x : CCode} {rs : List CRes} {args : List AV} {M : List (Nat × Loc)} {keep : Bool} {res : AV} {M' : List (Nat × Loc)} (hmix : P.follows .mixedOrders = true) (hc : chkFn P f x rs args.length = true)
    (hg : goodM keep M' M' = true ∧ goodA keep M' res = true ∧ (M'.map (·.1)).Nodup) (h : awp P G x (postA rs res M') ⟨argsL 0 args, M, 2⟩) : Meets P G f args M keep res M' := by
  refine ⟨hg, fun C Ws ys hw hm hu hG hv => ?_⟩
  unfold chkFn at hc
  split at hc <;> first | (cases hc; done) | skip
  rename_i fn hf
  split at hc <;> first | (cases hc; done) | skip
  rename_i code hb
  simp only [Bool.and_eq_true, decide_eq_true_eq] at hc
  obtain ⟨⟨hcode, hres⟩, hn⟩ := hc
  have hlen := SVl_length hv
  refine calls_of_wp hf hb ?_
  have hrel : Rel C.w Ws C.I G C fn.ntmps ⟨argsL 0 args, M, 2⟩ { tmps := ys.toArray ++ Array.replicate (fn.ntmps - ys.toArray.size) undef, defers := [] } C.w := by
    refine ⟨Nat.le_refl _, C, rfl, hw, hm, fun t z hz => ?_, hG, Ctx.Le.refl C, by simp; omega, rfl, (fun i hi => by cases hi), fun k hk => by have := (hu k).1 hk; simp only; omega, fun h1 => by have := (hu 1).1 h1; omega⟩
    obtain ⟨_, h1⟩ := look_argsL hz
    rw [Nat.sub_zero] at h1
    obtain ⟨y, h2, h3⟩ := SVl_get hv h1
    refine ⟨y, ?_, h3⟩
    have hlt := (List.getElem?_eq_some_iff.1 h2).1
    rw [Array.getElem?_append_left (by simpa using hlt)]
    simpa using h2
  refine wp_mono (awp_ok hmix hcode h hrel) ?_
  rintro e a w ⟨S, ⟨he, xs, L, T, hraw, hend⟩, hk, C1, rfl, hmid⟩
  have hm1 : C1.m = look S.m := hmid.m
  rw [← hm1] at hraw hend
  obtain ⟨y, hrun, hval⟩ := run_results hmid.wr hmid.fr hres hraw
  have hdef := hmid.defers
  suffices hR : ∃ y' C', y = y' ∧ C'.w = C1.w ∧ C.Le C' ∧ WR C.w Ws C.I C' ∧ C'.m = look M' ∧ SV C' res y' by
    obtain ⟨y', C', rfl, h1, h2, h3, h4, h5⟩ := hR
    rcases he with rfl | rfl <;> exact ⟨hdef, y, hrun, y, C', rfl, h1, h2, h3, h4, h5⟩
  let U : Nat → Prop := fun g => C1.used g ∨ g = 0 ∨ g = 1
  have hst' : ∀ (a : AV), Stamped (fun g => g = 0 ∨ g = 1) a → Stamped U a := by
    have key : (∀ (a : AV), Stamped (fun g => g = 0 ∨ g = 1) a → Stamped U a) := fun a => stamped_mono (fun g h => .inr h) a
    exact key
  have hnamed : Named C1.m L M' T U := ⟨hend.named.nd, hend.named.fit, hend.named.lent, hend.named.ns, hend.named.apart, fun e he => by
    have := hend.named.st e he
    cases hq : e.2 with
    | var g w => rw [hq] at this; exact ⟨.inr this.1, hst' w this.2⟩
    | rows g sz ws => rw [hq] at this; exact ⟨.inr this.1, stampedL_mono (fun g h => .inr h) ws this.2⟩⟩
  have hle : C1.Le (reCtx C1 L M' T U) := by
    refine ⟨fun g hg => .inl hg, fun k hk => .inl hk, fun _ _ => rfl, fun l c' hc' hu' => ?_⟩
    have hmem := look_mem hc'
    have hgE := goodM_mem hg.1 hmem
    have hgen : c'.gen = 0 := by
      cases c' with
      | var g w =>
        simp only [goodE, Bool.and_eq_true, Bool.or_eq_true, beq_iff_eq] at hgE
        rcases hgE.1 with h | h
        · exact h
        · subst h; exact absurd hu' hmid.one
      | rows g sz ws =>
        simp only [goodE, Bool.and_eq_true, beq_iff_eq] at hgE
        obtain ⟨rfl, _⟩ := hgE
        exact absurd hu' hmid.one
    have hold := hend.old _ hmem hgen
    simp only at hold
    have hfit := hnamed.fit _ hmem
    cases c' with
    | rows g sz ws =>
      simp only [Loc.gen] at hgen
      subst hgen
      simp [goodE] at hgE
    | var g w =>
      simp only [Loc.gen] at hgen
      subst hgen
      obtain ⟨l2, g2, raw, h1, h2, _⟩ := hfit
      simp only at h1
      rw [hold] at h1
      obtain ⟨rfl, rfl⟩ := (by simpa using h1 : l = l2 ∧ 0 = g2)
      refine ⟨_, h2, rfl, by simp [reCtx, src, hold], fun b _ cur _ hcur => ⟨cur, hcur, rfl⟩⟩
  have hwr : WR C.w Ws C.I (reCtx C1 L M' T U) := by
    refine hnamed.wr hmid.wr (fun k hk => .inl (hmid.wr.imm0 k hk)) (fun l c b _ h2 h3 => (hmid.wr.own l c b h2 h3).2.2) (fun k hk => ?_) hmid.wr.os hmid.wr.tape hmid.wr.output hmid.wr.size hmid.wr.block
    rcases hk with hk | ⟨t, _, ct, hct, hbt⟩
    · exact (hmid.wr.imm k hk).2
    · exact .inr ((hmid.wr.own t ct k hct hbt).2.2)
  exact ⟨y, reCtx C1 L M' T U, rfl, rfl, hmid.le.trans hle, hwr, rfl, SV_fitR hmid.wr hnamed.seen hend.fit hend.lent (hst' res hend.st) hval⟩

end Go.Proofs.YtngemgmnpcaamaaDoor.WL
