/- Texts put together: S06n, S06o. -/
import Derived.Test.YtphggannefpleaaDoorWm9
section
/-
  CHAPTER 06: Skip, of a ring with any number of trees.
-/
namespace Go.Proofs.YtphggannefpleaaDoor.WL
open Go
set_option maxHeartbeats 8000000
attribute [local irreducible] comp hb sha leafD pairD secD shutD wholeD pubD ofD leavesD nE nO

noncomputable def kX (x : Tr) (n : Int) : List (Nat × Loc) := [(4, .var 2 (keyA x.t.root x.t.h)), (5, .var 3 (.v (.int .i64 n)))]
noncomputable def kT1 (ts : List Tr) (lk : Nat) (x : Tr) (n : Int) : SA := ⟨[(0, .ptr 1000 0 0), (4, .ptr 4 2 0), (5, .ptr 5 3 0)], kX x n ++ rgL 0 ts lk, 5⟩
noncomputable def kT2 (ts : List Tr) (lk : Nat) (x : Tr) (n : Int) : SA := ⟨[(4, .ptr 4 2 0), (5, .ptr 5 3 0), (7, .ptr (nE x.id) 0 0), (8, .v (.int .i64 0))], kX x n ++ rgL 0 ts lk, 13⟩
noncomputable def kT3 (ts : List Tr) (lk : Nat) (x : Tr) (n : Int) : SA := ⟨[(4, .ptr 4 2 0), (5, .ptr 5 3 0), (7, .ptr (nE x.id) 0 0), (8, .v (.int .i64 0)), (16, .v (.bool false))], kX x n ++ rgL 0 ts lk, 15⟩
noncomputable def kT4 (ts : List Tr) (lk : Nat) (x : Tr) (n : Int) : SA := ⟨[(5, .ptr 5 3 0), (7, .ptr (nE x.id) 0 0)], kX x n ++ ((1000, .var 0 (.node [.oref 1001 0 true])) :: (1001, .ob 0 (.map true 33 false 1) (.node [.node (ts.map (trE 0)), .v (.int .i64 (lk : Nat))])) ::
  insL (flatT 0 ts) (nE x.id) (locE 0 x.id (skipT x.t n))), 29⟩
/-- The state is this one, but for the order of its memory. -/
def isS (S0 : SA) (e : Exit) (S : SA) : Prop := e = .normal ∧ S.fr = S0.fr ∧ S.clk = S0.clk ∧ look S.m = look S0.m
instance (S0 : SA) : Resp (isS S0) := ⟨fun e fr m m' c hm h => by
  unfold isS at *
  simp only at *
  rw [← hm]; exact h⟩
theorem kd0 (ts : List Tr) (lk : Nat) (x : Tr) (n : Int) : awp Tryd.prog Gt kc0 (fun e S => e = .normal ∧ S = kT1 ts lk x n) ⟨argsL 0 [.ptr 1000 0 0, keyA x.t.root x.t.h, .v (.int .i64 n)], rgL 0 ts lk, 2⟩ := by
  refine awp_go ?_
  unfold kT1 rgL
  generalize flatT 0 ts = H at *
  simp [kc0, keyA, kX]
theorem kd1 {ts : List Tr} (hf : Fine ts) (lk : Nat) {x : Tr} (hx : x ∈ ts) (n : Int) : awp Tryd.prog Gt kc1 (isS (kT2 ts lk x n)) (kT1 ts lk x n) := by
  refine awp_go ?_
  have hs := rg_sane hf lk
  have m1 := entry_tr hf lk hx
  have hres1 := ok_res2 (ok_ptr (off := 0) (rg_look (c := 0) (lk := lk) hf hx).1) (ok_v (rgL 0 ts lk) (.int .i64 0))
  have hX : ∀ k ∈ names (kX x n), k ∉ names (rgL 0 ts lk) := X_low (by simp [names, kX])
  have hown := look_own1 hs hX
  have hargs : okL (rgL 0 ts lk) [.ptr 1000 0 0, keyA x.t.root x.t.h] = true := okL_two (ok_ptr (x := .node [.oref 1001 0 true]) rfl) (ok_node (okL_two (ok_dv _ _) (ok_v _ _)))
  unfold kT1 kT2
  generalize hM : rgL 0 ts lk = M at *
  unfold rgL at hM
  subst hM
  generalize ts.map (trE 0) = E at *
  generalize flatT 0 ts = H at *
  simp [kc1, keyA, kX]
  refine call_same 0 m1 hs hargs rfl hres1 hown (fun z => ?_)
  simp [resRe, reL, reA, isS]
noncomputable def kT2n (ts : List Tr) (lk : Nat) (x : Tr) (n : Int) : SA := ⟨[(4, .ptr 4 2 0), (5, .ptr 5 3 0), (7, .v (.pointer none)), (8, .v (.int .i64 7))], kX x n ++ rgL 0 ts lk, 13⟩
theorem kd1n {ts : List Tr} (hf : Fine ts) (lk : Nat) {x : Tr} (hn : ∀ y ∈ ts, y.key ≠ (x.t.root, x.t.h)) (n : Int) : awp Tryd.prog Gt kc1 (isS (kT2n ts lk x n)) (kT1 ts lk x n) := by
  refine awp_go ?_
  have hs := rg_sane hf lk
  have m1 := entry_no hf lk hn
  have hres1 := ok_res2 (ok_v (rgL 0 ts lk) (.pointer none)) (ok_v (rgL 0 ts lk) (.int .i64 7))
  have hX : ∀ k ∈ names (kX x n), k ∉ names (rgL 0 ts lk) := X_low (by simp [names, kX])
  have hown := look_own1 hs hX
  have hargs : okL (rgL 0 ts lk) [.ptr 1000 0 0, keyA x.t.root x.t.h] = true := okL_two (ok_ptr (x := .node [.oref 1001 0 true]) rfl) (ok_node (okL_two (ok_dv _ _) (ok_v _ _)))
  unfold kT1 kT2n
  generalize hM : rgL 0 ts lk = M at *
  unfold rgL at hM
  subst hM
  generalize ts.map (trE 0) = E at *
  generalize flatT 0 ts = H at *
  simp [kc1, keyA, kX]
  refine call_same 0 m1 hs hargs rfl hres1 hown (fun z => ?_)
  simp [resRe, reL, reA, isS]
theorem kd2n {ts : List Tr} (hf : Fine ts) (lk : Nat) (x : Tr) (n : Int) : awp Tryd.prog Gt kc2 (fun e S => e = .ret ∧ postA [.tmp 6] (.v (.int .i64 7)) (rgL 0 ts lk) e S) (kT2n ts lk x n) := by
  have : Resp (fun e (S : SA) => e = Exit.ret ∧ postA [.tmp 6] (.v (.int .i64 7)) (rgL 0 ts lk) e S) := ⟨fun e fr m m' c hm h => ⟨h.1, (resp_post _ _ _).out e fr m m' c hm h.2⟩⟩
  refine awp_go ?_
  have hs := rg_sane hf lk
  have hres := ok_res1 (ok_v (rgL 0 ts lk) (.int .i64 7))
  have hX : ∀ k ∈ names (kX x n), k ∉ names (rgL 0 ts lk) := X_low (by simp [names, kX])
  have hown0 := look_own0 hs hX
  unfold kT2n
  generalize hM : rgL 0 ts lk = M at *
  simp [kc2, kX]
  exact post_id (.inr rfl) hs rfl rfl hres hown0
theorem kd2 (ts : List Tr) (lk : Nat) (x : Tr) (n : Int) (m : List (Nat × Loc)) : awp Tryd.prog Gt kc2 (fun e S => e = .normal ∧ S = ⟨(kT3 ts lk x n).fr, m, 15⟩) ⟨(kT2 ts lk x n).fr, m, 13⟩ := by
  refine awp_go ?_
  simp [kc2, kT2, kT3]
theorem kd3 {ts : List Tr} (hf : Fine ts) (lk : Nat) {x : Tr} (hx : x ∈ ts) (n : Int) (hh : x.t.h ≤ 6) : awp Tryd.prog Gt kc3 (fun e S => e = .normal ∧ S.fr = (kT4 ts lk x n).fr ∧ S.clk = 29 ∧ look S.m = look ((kT4 ts lk x n).m)) (kT3 ts lk x n) := by
  refine awp_go ?_
  obtain ⟨hE, hO⟩ := look_flat 0 ts x hf.ids hx
  have hmin : min x.t.h 64 = x.t.h := by omega
  have hN := skipN_nat x.t n
  have hLE : locE 0 x.id (skipT x.t n) = .var 0 (.node [.iptr (trA x.t.seed x.t.h x.t.ls), .v (.int .i64 (skipN x.t n)), .oref (nO x.id) 0 true]) := by simp [locE, skipT, hN]
  unfold kT4
  rw [hLE]
  unfold skipN
  obtain ⟨q, hq⟩ : ∃ q : Nat, q = 2 ^ x.t.h := ⟨_, rfl⟩
  have hq64 : q ≤ 64 := by rw [hq]; exact Nat.le_trans (Nat.pow_le_pow_right (by omega) hh) (by decide)
  have hqi : ((2 : Int) ^ x.t.h) = (q : Int) := by rw [hq]; simp
  have w1 : IntKind.i64.wrap (q : Int) = (q : Int) := w64_id (by omega)
  rw [← hq]
  unfold kT3 rgL
  generalize ts.map (trE 0) = E at *
  generalize flatT 0 ts = H at *
  unfold locE at hE
  simp [kc3, kX, keyA, hmin, hqi, w1, hE, nE_low, nO_low, nE_lt, nO_lt, nE_low', nO_low', look_ins]
theorem kd5 {ts : List Tr} (hf : Fine ts) (lk : Nat) {x : Tr} (hx : x ∈ ts) (n : Int) {m : List (Nat × Loc)} (h1 : look m (nE x.id) = some (locE 0 x.id (skipT x.t n))) (h2 : look m (nO x.id) = some (locO 0 (skipT x.t n)))
    (h3 : ∀ k, k ≠ nE x.id → k ≠ nO x.id → look m k = look (kX x n ++ rgL 0 ts lk) k) : awp Tryd.prog Gt kc5 (postA [.tmp 6] (.v (.int .i64 0)) (rgL 0 (upT ts x.id (skipT x.t n)) lk)) ⟨[], m, 35⟩ := by
  refine awp_go ?_
  have hkk : (skipT x.t n).root = x.t.root ∧ (skipT x.t n).h = x.t.h := ⟨rfl, rfl⟩
  have hs' := rg_sane (upT_fine hf hx hkk) lk
  have hres := ok_res1 (ok_v (rgL 0 (upT ts x.id (skipT x.t n)) lk) (.int .i64 0))
  have hX : ∀ k ∈ names (kX x n), k ∉ names (rgL 0 ts lk) := X_low (by simp [names, kX])
  have hend := up_look (m := m) hf lk hx hkk hX h1 h2 h3
  simp [kc5]
  exact post_id (.inr rfl) hs' rfl rfl hres hend

section
variable {w0 : World} {Ws I0 : Nat → Prop} {C0 : Ctx}
theorem Rel.re {S : SA} {fr : List (Nat × AV)} {m : List (Nat × Loc)} {c N : Nat} {a : Act} {w : World} (h : Rel w0 Ws I0 Gt C0 N S a w) (h1 : S.fr = fr) (h2 : S.clk = c) (h3 : look S.m = look m) : Rel w0 Ws I0 Gt C0 N ⟨fr, m, c⟩ a w := by
  obtain ⟨f, mm, cc⟩ := S
  simp only at h1 h2 h3
  subst h1 h2
  unfold Rel at *
  simp only at *
  rw [← h3]
  exact h
theorem k_mid2 {ts : List Tr} (hf : Fine ts) (lk : Nat) {x : Tr} (hx : x ∈ ts) {n : Int} (ok : OpOk x.t.K x.t.ck) {a : Act} {w : World} {Q : Exit → Act → World → Prop} (hr : Rel w0 Ws I0 Gt C0 37 (kT4 ts lk x n) a w)
    (hK : ∀ m a' w', look m (nE x.id) = some (locE 0 x.id (skipT x.t n)) → look m (nO x.id) = some (locO 0 (skipT x.t n)) → (∀ k, k ≠ nE x.id → k ≠ nO x.id → look m k = look (kX x n ++ rgL 0 ts lk) k) →
      Rel w0 Ws I0 Gt C0 37 ⟨[], m, 35⟩ a' w' → Q .normal a' w') : (Code.region 5 opsK false).wp Tryd.prog Q a w := by
  refine wp_region ?_
  rw [opsK_size, show List.range 6 = [0, 1, 2, 3, 4, 5] from rfl]
  rw [wpOps_fk, wpOps_fk, wpOps_fk, wpOps_fk, wpOps_fk, wpOps_fk]
  obtain ⟨hE, hO⟩ := look_flat 0 ts x hf.ids hx
  have hee := nE_nO x.id x.id
  have hee' : ¬ nO x.id = nE x.id := fun e => hee e.symm
  have hlE : look (kT4 ts lk x n).m (nE x.id) = some (locE 0 x.id (skipT x.t n)) := by simp [kT4, kX, nE_low, nO_low, nE_lt, nO_lt, nE_low', nO_low', look_ins]
  have hlO : look (kT4 ts lk x n).m (nO x.id) = some (locO 0 x.t) := by simp [kT4, kX, nE_low, nO_low, nE_lt, nO_lt, nE_low', nO_low', look_ins, hee', hO]
  obtain ⟨hk, C, rfl, hm⟩ := hr
  have hm0 := Rel.start (n := 6) hk hm [0, 1, 2, 3]
  refine mid_op (rd := []) (us := []) (av := .ptr (nE x.id) 0 0) opsK_0 opsK_c0 (by decide) (by simp) (by simp [kT4]) (by simp [kT4]) hm0 (.inr ⟨rfl, [.ptr (nE x.id) 0 0], rfl, rfl, rfl⟩) fun a1 C1 h1 => ?_
  refine mid_op (rd := []) (us := []) (av := .ptr (nE x.id) 0 0) opsK_1 opsK_c1 (by decide) (by simp) (by simp [kT4]) (by simp [kT4]) h1 (.inr ⟨rfl, [.ptr (nE x.id) 0 0], rfl, rfl, rfl⟩) fun a2 C2 h2 => ?_
  refine mid_op (rd := []) (us := []) (av := .ptr (nE x.id) 0 2) opsK_2 opsK_c2 (by decide) (by simp) (by simp [kT4]) (by simp [kT4]) h2 (.inr ⟨rfl, [.ptr (nE x.id) 0 0], rfl, rfl, rfl⟩) fun a3 C3 h3 => ?_
  refine mid_op (rd := [nE x.id]) (us := []) (av := .oref (nO x.id) 0 true) opsK_3 opsK_c3 (by decide) (by simp) (by simp [kT4]) (by simp [kT4]) h3 (.inr ⟨rfl, [.ptr (nE x.id) 0 2], rfl, ?_, rfl⟩) fun a4 C4 h4 => ?_
  · show step (.load false 1) [.ptr (nE x.id) 0 2] (look (kT4 ts lk x n).m) _ _ = _
    simp only [step_load]
    unfold loadA deref
    simp only
    rw [hlE]
    simp [locE]
  refine skip_calls (K := x.t.K) (ck := x.t.ck) ok (n := n) (l := nO x.id) (g := 0) (g5 := 3) h4 rfl hlO rfl rfl fun a5 C5 h5 => ?_
  refine hK (insL (kT4 ts lk x n).m (nO x.id) (locO 0 (skipT x.t n))) _ _ ?_ ?_ ?_ ⟨by simp, C5, rfl, h5.wr, h5.m.trans ?_, (fun t x hx => by simp [look] at hx), h5.gr, h5.le, h5.size, h5.defers, by simp, fun k hk => h5.top k hk, h5.one⟩
  · rw [look_ins, if_neg hee, hlE]
  · rw [look_ins, if_pos rfl]
  · intro k hk1 hk2
    rw [look_ins, if_neg hk2]
    simp [kT4, kX, rgL, look, look_ins, hk1]
  · rw [look_insL]
    rfl
end
theorem skip_tr {ts : List Tr} (hf : Fine ts) (lk : Nat) {x : Tr} (hx : x ∈ ts) (n : Int) (hh : x.t.h ≤ 6) (ok : OpOk x.t.K x.t.ck) : Meets Tryd.prog Gt 16 [.ptr 1000 0 0, keyA x.t.root x.t.h, .v (.int .i64 n)] (rgL 0 ts lk) false (.v (.int .i64 0)) (rgL 0 (upT ts x.id (skipT x.t n)) lk) := by
  have hfn : Tryd.prog.funcs[16]? = some Tryd.f16 := by kernel_rfl
  have hnt : Tryd.f16.ntmps = 37 := by kernel_rfl
  have hkk : (skipT x.t n).root = x.t.root ∧ (skipT x.t n).h = x.t.h := ⟨rfl, rfl⟩
  have hs' := rg_sane (upT_fine hf hx hkk) lk
  have hres := ok_res1 (ok_v (rgL 0 (upT ts x.id (skipT x.t n)) lk) (.int .i64 0))
  refine meets_of_wp (rs := [.tmp 6]) hfn k_body (by kernel_rfl) (by rw [hnt]; simp) (good_id hs' hres) fun w0 Ws I0 C0 a w hr => ?_
  rw [hnt] at hr ⊢
  rw [k_seq]
  refine wp_seq (wp_mono (awp_ok mix kchk0 (kd0 ts lk x n) hr) ?_)
  rintro e a1 w1 ⟨S1, ⟨rfl, rfl⟩, h1⟩
  refine wp_seq (wp_mono (awp_ok mix kchk1 (kd1 hf lk hx n) h1) ?_)
  rintro e a2 w2 ⟨S2, ⟨rfl, e1, e2, e3⟩, h2⟩
  have h2 := h2.re e1 e2 e3
  refine wp_seq (wp_mono (awp_ok mix kchk2 (kd2 ts lk x n _) h2) ?_)
  rintro e a3 w3 ⟨S3, ⟨rfl, rfl⟩, h3⟩
  refine wp_seq (wp_mono (awp_ok mix kchk3 (kd3 hf lk hx n hh) h3) ?_)
  rintro e a4 w4 ⟨S4, ⟨rfl, e1, e2, e3⟩, h4⟩
  have h4 := h4.re e1 e2 e3
  refine wp_seq (k_mid2 hf lk hx ok h4 fun m a5 w5 g1 g2 g3 h5 => ?_)
  exact awp_ok mix kchk5 (kd5 hf lk hx n g1 g2 g3) h5
theorem skip_no {ts : List Tr} (hf : Fine ts) (lk : Nat) {root : Dg} {h : Nat} (hn : ∀ x ∈ ts, x.key ≠ (root, h)) (n : Int) : Meets Tryd.prog Gt 16 [.ptr 1000 0 0, keyA root h, .v (.int .i64 n)] (rgL 0 ts lk) false (.v (.int .i64 7)) (rgL 0 ts lk) := by
  have hfn : Tryd.prog.funcs[16]? = some Tryd.f16 := by kernel_rfl
  have hnt : Tryd.f16.ntmps = 37 := by kernel_rfl
  have hs := rg_sane hf lk
  have hres := ok_res1 (ok_v (rgL 0 ts lk) (.int .i64 7))
  refine meets_of_wp (rs := [.tmp 6]) hfn k_body (by kernel_rfl) (by rw [hnt]; simp) (good_id hs hres) fun w0 Ws I0 C0 a w hr => ?_
  rw [hnt] at hr ⊢
  rw [k_seq]
  refine wp_seq (wp_mono (awp_ok mix kchk0 (kd0 ts lk ⟨0, ⟨root, h, [], root, 0, [], 0⟩⟩ n) hr) ?_)
  rintro e a1 w1 ⟨S1, ⟨rfl, rfl⟩, h1⟩
  refine wp_seq (wp_mono (awp_ok mix kchk1 (kd1n hf lk (x := ⟨0, ⟨root, h, [], root, 0, [], 0⟩⟩) hn n) h1) ?_)
  rintro e a2 w2 ⟨S2, ⟨rfl, e1, e2, e3⟩, h2⟩
  have h2 := h2.re e1 e2 e3
  refine wp_seq (wp_mono (awp_ok mix kchk2 (kd2n hf lk _ n) h2) ?_)
  rintro e a3 w3 ⟨S3, ⟨rfl, hp⟩, h3⟩
  exact ⟨S3, hp, h3⟩
end Go.Proofs.YtphggannefpleaaDoor.WL

end
section
/-
  CHAPTER 06: Add, to a ring with any number of trees.
-/
namespace Go.Proofs.YtphggannefpleaaDoor.WL
open Go
set_option maxHeartbeats 8000000
attribute [local irreducible] comp hb sha leafD pairD secD shutD wholeD pubD ofD leavesD nE nO

mutual
theorem fit_reL {m : Nat → Option Loc} {M : List (Nat × Loc)} (h0 : gens0 M) {L : Names} {c : Nat} (c' : Nat) (hL : ∀ k ∈ names M, look L k = some (some (k, c))) : ∀ (a : AV), okA M a = true → Fit m L (reA c a) (reA c' a) ∧ touch m (reA c a) (reA c' a) = []
  | .ptr l g off, h => by
    obtain ⟨rfl, hl⟩ := goodA_ptr h0 (by simpa only [okA] using h)
    simp [reA, Fit, touch, hL l hl]
  | .row l sz g off n, h => by
    obtain ⟨rfl, hl⟩ := goodA_row h0 (by simpa only [okA] using h)
    simp [reA, Fit, touch, hL l hl]
  | .oref l g mp, h => by
    obtain ⟨rfl, hl⟩ := goodA_oref h0 (by simpa only [okA] using h)
    simp [reA, Fit, touch, hL l hl]
  | .node cs, h => by
    simp only [okA] at h
    simp only [reA, Fit, touch]
    exact fits_reL h0 c' hL cs h
  | .tup _, h => by simp [okA] at h
  | .top, _ => Fit_refl .top rfl
  | .v x, _ => Fit_refl (.v x) rfl
  | .arr sz xs, h => Fit_refl (.arr sz xs) (by simpa [okA, goodA] using h)
  | .sl sz xs, h => Fit_refl (.sl sz xs) (by simpa [okA, goodA] using h)
  | .iptr x, h => Fit_refl (.iptr x) (by simpa [okA, goodA] using h)
  | .vrow .., h => by simp [okA, goodA] at h
  | .rptr .., h => by simp [okA, goodA] at h
theorem fits_reL {m : Nat → Option Loc} {M : List (Nat × Loc)} (h0 : gens0 M) {L : Names} {c : Nat} (c' : Nat) (hL : ∀ k ∈ names M, look L k = some (some (k, c))) : ∀ (zs : List AV), okL M zs = true → FitL m L (reL c zs) (reL c' zs) ∧ touchL m (reL c zs) (reL c' zs) = []
  | [], _ => by simp [reL, touchL]
  | a :: zs, h => by
    simp only [okL, Bool.and_eq_true] at h
    have h1 := fit_reL (m := m) h0 c' hL a h.1
    have h2 := fits_reL (m := m) h0 c' hL zs h.2
    simp only [reL, touchL]
    exact ⟨by simp only [FitL]; exact ⟨_, _, rfl, h1.1, h2.1⟩, by rw [h1.2, h2.2]; rfl⟩
end
theorem fit_append {m : Nat → Option Loc} {L : Names} : ∀ {rs ws rs' ws' : List AV}, FitL m L rs ws ∧ touchL m rs ws = [] → FitL m L rs' ws' ∧ touchL m rs' ws' = [] → FitL m L (rs ++ rs') (ws ++ ws') ∧ touchL m (rs ++ rs') (ws ++ ws') = []
  | rs, [], rs', ws', h, h' => by
    have : rs = [] := by simpa only [FitL] using h.1
    subst this
    exact h'
  | rs, w :: ws, rs', ws', h, h' => by
    obtain ⟨h1, h2⟩ := h
    simp only [FitL] at h1
    obtain ⟨r, r', rfl, k1, k2⟩ := h1
    simp only [touchL, List.append_eq_nil_iff] at h2
    have ih := fit_append ⟨k2, h2.2⟩ h'
    simp only [List.cons_append, FitL, touchL, List.append_eq_nil_iff]
    exact ⟨⟨_, _, rfl, k1, ih.1⟩, h2.1, ih.2⟩
/-- A sane memory, told anew. -/
theorem fitE_sane {m : Nat → Option Loc} {M : List (Nat × Loc)} (h : Sane M) {L : Names} {c1 : Nat} (c : Nat) (hL : ∀ k ∈ names M, look L k = some (some (k, c1))) (hm : ∀ e ∈ M, m e.1 = some (reLoc c1 e.2)) :
    ∀ e ∈ M, FitE m L e.1 (reLoc c e.2) ∧ touchE m L e.1 (reLoc c e.2) = [] ∧ StampedLoc (· = c) (reLoc c e.2) := fun e he => by
  have h1 := h.ok e he
  have h3 := hm e he
  have h4 := hL e.1 (List.mem_map.2 ⟨e, he, rfl⟩)
  cases hq : e.2 with
  | var g x =>
    rw [hq] at h1 h3
    have := fit_reL (m := m) h.gens c hL x h1
    exact ⟨⟨_, _, _, h4, h3, this.1⟩, by simp only [touchE, reLoc, h4, h3, this.2], rfl, stamped_re h.gens c (fun s => s = c) rfl x h1⟩
  | rows g sz xs => rw [hq] at h1; simp [okE] at h1
  | ob g q x =>
    rw [hq] at h1 h3
    have := fit_reL (m := m) h.gens c hL x h1
    exact ⟨⟨_, _, _, h4, h3, this.1⟩, by simp only [touchE, reLoc, h4, h3, this.2], rfl, stamped_re h.gens c (fun s => s = c) rfl x h1⟩

/-- A ring with one tree more, that still has names and a stamp of its own. -/
noncomputable def rgA (c g g' p q : Nat) (ts : List Tr) (lk : Nat) (t : One) : List (Nat × Loc) :=
  (1000, .var c (.node [.oref 1001 c true])) :: (1001, .ob c (.map true 33 false 1) (.node [.node (ts.map (trE c) ++ [entA (.node [dv t.root, .v (.int .i64 (t.h : Nat))]) (.ptr p g 0) ((lk : Nat) : Int)]), .v (.int .i64 ((lk + 1 : Nat) : Int))])) ::
    (p, .var g (.node [.iptr (trA t.seed t.h t.ls), .v (.int .i64 (t.nx : Nat)), .oref q g' true])) :: (q, .ob g' (.map false 1 false 1) (.node [.node (opE t.K), .v (.int .i64 (t.ck : Nat))])) :: flatT c ts
theorem reL_opE (c : Nat) : ∀ (K : List (Int × Nat)), reL c (opE K) = opE K
  | [] => rfl
  | p :: K => by
    have ih := reL_opE c K
    simp only [opE, List.map_cons, reL] at ih ⊢
    rw [ih]; rfl
theorem reL_trE (c c' : Nat) (ts : List Tr) : reL c (ts.map (trE c')) = ts.map (trE c) := by
  induction ts with
  | nil => rfl
  | cons x ts ih => simp only [List.map_cons, reL, ih]; rfl
theorem rg_split {ts : List Tr} (hf : Fine ts) (lk : Nat) : okL (rgL 0 ts lk) (ts.map (trE 0)) = true := okL_map fun x hx => ok_node (okL_three (ok_node (okL_two (ok_dv _ _) (ok_v _ _))) (ok_ptr (rg_look (c := 0) (lk := lk) hf hx).1) (ok_v _ _))
theorem tr_fit (m : Nat → Option Loc) (L : Names) (t : One) : Fit m L (.iptr (trA t.seed t.h t.ls)) (.iptr (trA t.seed t.h t.ls)) ∧ touch m (.iptr (trA t.seed t.h t.ls)) (.iptr (trA t.seed t.h t.ls)) = [] := Fit_refl (.iptr _) (by simp [closed, trA_closed])
theorem fit_ent {m : Nat → Option Loc} {L : Names} {k v v' : AV} {n : Int} (hk : Fit m L k k ∧ touch m k k = []) (hv : Fit m L v v' ∧ touch m v v' = []) : FitL m L [entA k v n] [entA k v' n] ∧ touchL m [entA k v n] [entA k v' n] = [] := by
  have h3 := Fit_refl (m := m) (L := L) (.v (.int .i64 n)) rfl
  unfold entA
  simp only [FitL, touchL, Fit, touch, List.append_eq_nil_iff]
  exact ⟨⟨_, _, rfl, ⟨_, _, rfl, hk.1, _, _, rfl, hv.1, _, _, rfl, rfl, rfl⟩, rfl⟩, by simp [hk.2, hv.2]⟩
theorem stamped_ent {U : Nat → Prop} {k v : AV} {n : Int} (hk : Stamped U k) (hv : Stamped U v) : StampedL U [entA k v n] := by
  unfold entA
  simp only [StampedL, Stamped]
  exact ⟨⟨hk, hv, trivial, trivial⟩, trivial⟩
theorem fitA {m : Nat → Option Loc} {ts : List Tr} (hf : Fine ts) {lk : Nat} {t : One} {L : Names} {c1 g1 g2 p1 q1 : Nat} (c g p q : Nat) (hm : ∀ e ∈ rgA c1 g1 g2 p1 q1 ts lk t, m e.1 = some e.2)
    (hL : ∀ k ∈ names (rgL 0 ts lk), look L k = some (some (k, c1))) (hp : look L p = some (some (p1, g1))) (hq : look L q = some (some (q1, g2))) :
    ∀ e ∈ rgA c g g p q ts lk t, FitE m L e.1 e.2 ∧ touchE m L e.1 e.2 = [] ∧ StampedLoc (fun s => s = c ∨ s = g) e.2 := fun e he => by
  have h := rg_sane hf lk
  have h0 := hm _ List.mem_cons_self
  have h1 := hm _ (List.mem_cons_of_mem _ List.mem_cons_self)
  have h2 := hm _ (List.mem_cons_of_mem _ (List.mem_cons_of_mem _ List.mem_cons_self))
  have h3 := hm _ (List.mem_cons_of_mem _ (List.mem_cons_of_mem _ (List.mem_cons_of_mem _ List.mem_cons_self)))
  have hL0 := hL 1000 (rg_names.2 (.inl rfl))
  have hL1 := hL 1001 (rg_names.2 (.inr (.inl rfl)))
  have hE := fits_reL (m := m) h.gens c hL _ (rg_split hf lk)
  rw [reL_trE, reL_trE] at hE
  have hS := stampeds_re h.gens c (fun s => s = c ∨ s = g) (.inl rfl) _ (rg_split hf lk)
  rw [reL_trE] at hS
  have hop := FitL_refl (m := m) (L := L) _ (opE_closed t.K)
  have hopS := stampeds_re (M := rgL 0 ts lk) h.gens c (fun s => s = c ∨ s = g) (.inl rfl) (opE t.K) (okL_map fun p hp => ok_node (okL_three (ok_v _ _) (ok_v _ _) (ok_v _ _)))
  rw [reL_opE] at hopS
  have htr := tr_fit m L t
  have hdv := Fit_refl (m := m) (L := L) (dv t.root) (by simp)
  have hdS : Stamped (fun s => s = c ∨ s = g) (dv t.root) := closed_stamped _ (by simp)
  simp only at h0 h1 h2 h3
  rcases List.mem_cons.1 he with rfl | he
  · exact ⟨⟨_, _, _, hL0, h0, by simp [Fit, FitL, hL1]⟩, by simp [touchE, hL0, h0, touch, touchL], .inl rfl, by simp [Stamped, StampedL]⟩
  rcases List.mem_cons.1 he with rfl | he
  · have hnew := fit_ent (n := ((lk : Nat) : Int)) (Fit_refl (m := m) (L := L) (.node [dv t.root, .v (.int .i64 (t.h : Nat))]) (by simp [closed])) (v := .ptr p1 g1 0) (v' := .ptr p g 0) ⟨⟨rfl, hp⟩, rfl⟩
    have ha := fit_append hE hnew
    refine ⟨⟨_, _, _, hL1, h1, ?_⟩, ?_, .inl rfl, ?_⟩
    · simp only [Fit, FitL]
      exact ⟨_, _, rfl, ha.1, _, _, rfl, rfl, rfl⟩
    · simp only [touchE, hL1, h1, touch, touchL, ha.2, List.append_nil]
    · simp only [Stamped, StampedL]
      refine ⟨?_, trivial, trivial⟩
      have : ∀ l l' : List AV, StampedL (fun s => s = c ∨ s = g) l → StampedL (fun s => s = c ∨ s = g) l' → StampedL (fun s => s = c ∨ s = g) (l ++ l') := by
        intro l l' k1 k2
        induction l with
        | nil => exact k2
        | cons a l ih => exact ⟨k1.1, ih k1.2⟩
      exact this _ _ hS (stamped_ent (closed_stamped _ (by simp [closed])) (.inr rfl))
  rcases List.mem_cons.1 he with rfl | he
  · refine ⟨⟨_, _, _, hp, h2, ?_⟩, ?_, .inr rfl, ?_⟩
    · simp only [Fit, FitL]
      exact ⟨_, _, rfl, htr.1, _, _, rfl, rfl, _, _, rfl, ⟨rfl, hq⟩, rfl⟩
    · simp only [touchE, hp, h2, touch, touchL, List.append_nil, List.nil_append]
    · simp [Stamped, StampedL]
  rcases List.mem_cons.1 he with rfl | he
  · refine ⟨⟨_, _, _, hq, h3, ?_⟩, ?_, .inr rfl, ?_⟩
    · simp only [Fit, FitL]
      exact ⟨_, _, rfl, hop.1, _, _, rfl, rfl, rfl⟩
    · simp only [touchE, hq, h3, touch, touchL, hop.2, List.append_nil]
    · simp only [Stamped, StampedL]
      exact ⟨hopS, trivial, trivial⟩
  · have hfl : ∀ c2, reM c2 (flatT 0 ts) = flatT c2 ts := fun c2 => by
      have := rg_re c2 0 ts lk
      unfold rgL at this
      simp only [reM, List.map_cons, List.cons.injEq] at this
      exact this.2.2
    rw [← hfl c] at he
    obtain ⟨e0, he0, rfl⟩ := List.mem_map.1 he
    have hin : e0 ∈ rgL 0 ts lk := List.mem_cons_of_mem _ (List.mem_cons_of_mem _ he0)
    have hm0 : m e0.1 = some (reLoc c1 e0.2) := by
      have : (e0.1, reLoc c1 e0.2) ∈ flatT c1 ts := by rw [← hfl c1]; exact List.mem_map.2 ⟨e0, he0, rfl⟩
      exact hm _ (List.mem_cons_of_mem _ (List.mem_cons_of_mem _ (List.mem_cons_of_mem _ (List.mem_cons_of_mem _ this))))
    have h1 := h.ok e0 hin
    have h4 := hL e0.1 (List.mem_map.2 ⟨e0, hin, rfl⟩)
    simp only
    cases hq : e0.2 with
    | var s x =>
      rw [hq] at h1 hm0
      have := fit_reL (m := m) h.gens c hL x h1
      exact ⟨⟨_, _, _, h4, hm0, this.1⟩, by simp only [touchE, reLoc, h4, hm0, this.2], .inl rfl, stamped_re h.gens c _ (.inl rfl) x h1⟩
    | rows s sz xs => rw [hq] at h1; simp [okE] at h1
    | ob s q x =>
      rw [hq] at h1 hm0
      have := fit_reL (m := m) h.gens c hL x h1
      exact ⟨⟨_, _, _, h4, hm0, this.1⟩, by simp only [touchE, reLoc, h4, hm0, this.2], .inl rfl, stamped_re h.gens c _ (.inl rfl) x h1⟩
theorem rgA_nodup {ts : List Tr} (hf : Fine ts) (c g lk : Nat) (t : One) {p q : Nat} (hpq : p ≠ q) (hp : p ∉ names (rgL 0 ts lk)) (hq : q ∉ names (rgL 0 ts lk)) : (names (rgA c g g p q ts lk t)).Nodup := by
  have h := rg_nodup hf 0 lk
  have hfn : names (flatT c ts) = names (flatT 0 ts) := by
    have := congrArg names (rg_re c 0 ts lk)
    rw [names_reM] at this
    exact (List.cons.inj (List.cons.inj this).2).2.symm
  change (1000 :: 1001 :: names (flatT 0 ts)).Nodup at h
  change p ∉ 1000 :: 1001 :: names (flatT 0 ts) at hp
  change q ∉ 1000 :: 1001 :: names (flatT 0 ts) at hq
  show (1000 :: 1001 :: p :: q :: names (flatT c ts)).Nodup
  rw [hfn]
  simp only [List.nodup_cons, List.mem_cons, not_or] at h hp hq ⊢
  exact ⟨⟨h.1.1, fun e => hp.1 e.symm, fun e => hq.1 e.symm, h.1.2⟩, ⟨fun e => hp.2.1 e.symm, fun e => hq.2.1 e.symm, h.2.1⟩, ⟨hpq, hp.2.2⟩, hq.2.2, h.2.2⟩

/-- The same kind of location. -/
def kin : Loc → Loc → Prop
  | .var g _, .var g' _ => g = g'
  | .rows g s _, .rows g' s' _ => g = g' ∧ s = s'
  | .ob g _ _, .ob g' _ _ => g = g'
  | _, _ => False
theorem kin_refl : ∀ (c : Loc), kin c c
  | .var .. => rfl
  | .rows .. => ⟨rfl, rfl⟩
  | .ob .. => rfl
mutual
theorem good_mono {M M' : List (Nat × Loc)} (h : ∀ l c, look M l = some c → ∃ c', look M' l = some c' ∧ kin c c') : ∀ (a : AV), goodA false M a = true → goodA false M' a = true
  | .ptr l g off, k => by
    simp only [goodA] at k ⊢
    split at k
    · rename_i g' x hl
      obtain ⟨c', h1, h2⟩ := h l _ hl
      cases c' with
      | var g2 y => rw [h1]; simp only [kin] at h2; subst h2; exact k
      | rows => exact h2.elim
      | ob => exact h2.elim
    · cases k
  | .row l sz g off n, k => by
    simp only [goodA] at k ⊢
    split at k
    · rename_i g' s x hl
      obtain ⟨c', h1, h2⟩ := h l _ hl
      cases c' with
      | rows g2 s2 y => rw [h1]; obtain ⟨rfl, rfl⟩ := h2; exact k
      | var => exact h2.elim
      | ob => exact h2.elim
    · cases k
  | .oref l g mp, k => by
    simp only [goodA] at k ⊢
    split at k
    · rename_i g' q x hl
      obtain ⟨c', h1, h2⟩ := h l _ hl
      cases c' with
      | ob g2 q2 y => rw [h1]; simp only [kin] at h2; subst h2; exact k
      | rows => exact h2.elim
      | var => exact h2.elim
    · cases k
  | .node cs, k => by simp only [goodA] at k ⊢; exact goods_mono h cs k
  | .tup cs, k => by simp only [goodA] at k ⊢; exact goods_mono h cs k
  | .top, k => k
  | .v _, k => k
  | .arr .., k => k
  | .sl .., k => k
  | .iptr _, k => k
  | .vrow .., k => k
  | .rptr .., k => k
theorem goods_mono {M M' : List (Nat × Loc)} (h : ∀ l c, look M l = some c → ∃ c', look M' l = some c' ∧ kin c c') : ∀ (zs : List AV), goods false M zs = true → goods false M' zs = true
  | [], _ => rfl
  | a :: zs, k => by
    simp only [goods, Bool.and_eq_true] at k ⊢
    exact ⟨good_mono h a k.1, goods_mono h zs k.2⟩
end
theorem goods_append {M : List (Nat × Loc)} : ∀ {l l' : List AV}, goods false M l = true → goods false M l' = true → goods false M (l ++ l') = true
  | [], _, _, h => h
  | a :: l, l', h, h' => by
    simp only [goods, List.cons_append, Bool.and_eq_true] at h ⊢
    exact ⟨h.1, goods_append h.2 h'⟩
theorem rgA_good {ts : List Tr} (hf : Fine ts) (lk : Nat) (t : One) (hp2 : 1002 ∉ names (rgL 0 ts lk)) (hp3 : 1003 ∉ names (rgL 0 ts lk)) : goodM false (rgA 0 1 1 1002 1003 ts lk t) (rgA 0 1 1 1002 1003 ts lk t) = true := by
  have hs := rg_sane hf lk
  have hl2 : look (rgA 0 1 1 1002 1003 ts lk t) 1002 = some (.var 1 (.node [.iptr (trA t.seed t.h t.ls), .v (.int .i64 (t.nx : Nat)), .oref 1003 1 true])) := rfl
  have hl3 : look (rgA 0 1 1 1002 1003 ts lk t) 1003 = some (.ob 1 (.map false 1 false 1) (.node [.node (opE t.K), .v (.int .i64 (t.ck : Nat))])) := rfl
  have hl1 : look (rgA 0 1 1 1002 1003 ts lk t) 1001 = some (.ob 0 (.map true 33 false 1) (.node [.node (ts.map (trE 0) ++ [entA (.node [dv t.root, .v (.int .i64 (t.h : Nat))]) (.ptr 1002 1 0) ((lk : Nat) : Int)]), .v (.int .i64 ((lk + 1 : Nat) : Int))])) := rfl
  have hmo : ∀ l c, look (rgL 0 ts lk) l = some c → ∃ c', look (rgA 0 1 1 1002 1003 ts lk t) l = some c' ∧ kin c c' := fun l c h => by
    have hn := look_names h
    by_cases e1 : l = 1001
    · subst e1
      rw [rg_look0] at h
      obtain rfl := Option.some.inj h
      exact ⟨_, hl1, rfl⟩
    · have : look (rgA 0 1 1 1002 1003 ts lk t) l = look (rgL 0 ts lk) l := by
        unfold rgA rgL
        simp only [look]
        rw [if_neg (c := 1001 = l) (fun e => e1 e.symm), if_neg (c := 1002 = l) (fun e => hp2 (by rw [e]; exact hn)), if_neg (c := 1003 = l) (fun e => hp3 (by rw [e]; exact hn)), if_neg (c := 1001 = l) (fun e => e1 e.symm)]
      exact ⟨c, this.trans h, kin_refl c⟩
  refine goodM_of fun e he => ?_
  rcases List.mem_cons.1 he with rfl | he
  · have := good_mono hmo _ (ok_good _ (hs.ok _ List.mem_cons_self))
    simp only [goodE, Bool.and_eq_true]
    exact ⟨rfl, this⟩
  rcases List.mem_cons.1 he with rfl | he
  · have h1 := goods_mono hmo _ (oks_good _ (rg_split hf lk))
    have h2 : goods false (rgA 0 1 1 1002 1003 ts lk t) [entA (.node [dv t.root, .v (.int .i64 (t.h : Nat))]) (.ptr 1002 1 0) ((lk : Nat) : Int)] = true := by
      have hk := goodA_closed (M := rgA 0 1 1 1002 1003 ts lk t) (a := .node [dv t.root, .v (.int .i64 (t.h : Nat))]) (by simp [closed])
      unfold entA
      generalize AV.node [dv t.root, .v (.int .i64 (t.h : Nat))] = kk at *
      simp [goods, goodA, hk, hl2, closed]
    simp only [goodE, goodA, goods, Bool.and_eq_true]
    exact ⟨by simp, goods_append h1 h2, by simp [closed]⟩
  rcases List.mem_cons.1 he with rfl | he
  · simp [goodE, goodA, goods, hl3, closed, trA_closed]
  rcases List.mem_cons.1 he with rfl | he
  · have := oks_good (M := rgA 0 1 1 1002 1003 ts lk t) (opE t.K) (okL_map fun p hp => ok_node (okL_three (ok_v _ _) (ok_v _ _) (ok_v _ _)))
    simp [goodE, goodA, goods, this, closed]
  · have hin : e ∈ rgL 0 ts lk := List.mem_cons_of_mem _ (List.mem_cons_of_mem _ he)
    have h1 := hs.ok _ hin
    have h2 := hs.gens _ hin
    cases hq : e.2 with
    | var g x =>
      rw [hq] at h1 h2
      simp only [Loc.gen] at h2
      subst h2
      simp only [goodE, Bool.and_eq_true]
      exact ⟨rfl, good_mono hmo _ (ok_good x h1)⟩
    | rows g sz xs => rw [hq] at h1; simp [okE] at h1
    | ob g q x =>
      rw [hq] at h1 h2
      simp only [Loc.gen] at h2
      subst h2
      simp only [goodE, Bool.and_eq_true]
      exact ⟨rfl, good_mono hmo _ (ok_good x h1)⟩
theorem flat_names0 (c : Nat) (ts : List Tr) : names (flatT c ts) = names (flatT 0 ts) := by
  have := congrArg names (rg_re c 0 ts 0)
  rw [names_reM] at this
  exact (List.cons.inj (List.cons.inj this).2).2.symm
theorem srcsA {ts : List Tr} {lk : Nat} {t : One} {L : Names} {c1 g1 g2 p1 q1 : Nat} (c g g' p q : Nat) (hL : ∀ k ∈ names (rgL 0 ts lk), look L k = some (some (k, c1))) (hp : look L p = some (some (p1, g1))) (hq : look L q = some (some (q1, g2))) :
    srcs L (rgA c g g' p q ts lk t) = names (rgA c g g' p1 q1 ts lk t) := by
  have hs : ∀ k ∈ names (rgL 0 ts lk), src L k = some k := fun k hk => by simp [src, hL k hk]
  have h1 : src L p = some p1 := by simp [src, hp]
  have h2 : src L q = some q1 := by simp [src, hq]
  have h3 : ∀ r : List (Nat × Loc), (∀ e ∈ r, e.1 ∈ names (rgL 0 ts lk)) → r.filterMap (fun e => src L e.1) = names r := by
    intro r
    induction r with
    | nil => intro _; rfl
    | cons e r ih =>
      intro h
      rw [List.filterMap_cons_some (f := fun e : Nat × Loc => src L e.1) (b := e.1) (hs _ (h e List.mem_cons_self)), ih fun x hx => h x (List.mem_cons_of_mem _ hx)]
      rfl
  unfold srcs rgA
  rw [List.filterMap_cons_some (f := fun e : Nat × Loc => src L e.1) (b := 1000) (hs _ (rg_names.2 (.inl rfl))), List.filterMap_cons_some (f := fun e : Nat × Loc => src L e.1) (b := 1001) (hs _ (rg_names.2 (.inr (.inl rfl)))),
    List.filterMap_cons_some (f := fun e : Nat × Loc => src L e.1) (b := p1) h1, List.filterMap_cons_some (f := fun e : Nat × Loc => src L e.1) (b := q1) h2, h3 _ fun e he => ?_]
  · rfl
  · have : e.1 ∈ names (flatT 0 ts) := by rw [← flat_names0 c]; exact List.mem_map.2 ⟨e, he, rfl⟩
    exact List.mem_cons_of_mem _ (List.mem_cons_of_mem _ this)
theorem low_no {ts : List Tr} {lk k : Nat} (h1 : 1001 < k) (h2 : k < 2000000000) : k ∉ names (rgL 0 ts lk) := fun hk => by
  rcases rg_names.1 hk with h | h | ⟨x, _, h | h⟩
  · omega
  · omega
  · rw [nE_low h2] at h; exact h
  · rw [nO_low h2] at h; exact h
theorem low_no' {ts : List Tr} {lk k : Nat} (h1 : k < 1000) : k ∉ names (rgL 0 ts lk) := fun hk => by
  rcases rg_names.1 hk with h | h | ⟨x, _, h | h⟩
  · omega
  · omega
  · rw [nE_low (by omega)] at h; exact h
  · rw [nO_low (by omega)] at h; exact h
theorem flat_low {c : Nat} {ts : List Tr} : ∀ e ∈ flatT c ts, ∀ k, k < 2000000000 → ¬ k = e.1 := fun e he k hk => by
  obtain ⟨x, _, rfl | rfl⟩ := flat_mem.1 he
  · rw [nE_low hk]; exact id
  · rw [nO_low hk]; exact id
theorem flat_at {c : Nat} {ts : List Tr} (hf : Fine ts) : ∀ e ∈ flatT c ts, look (flatT c ts) e.1 = some e.2 := fun e he => look_of_mem (flat_nodup c ts hf.ids) he
/-- Add's end. -/
theorem post_add {ts : List Tr} (hf : Fine ts) (lk : Nat) (t : One) (hp2 : 1002 ∉ names (rgL 0 ts lk)) (hp3 : 1003 ∉ names (rgL 0 ts lk)) {rs : List CRes} {e : Exit} {S : SA} {res : AV} {g1 g2 : Nat} (he : e = .normal ∨ e = .ret)
    (hrx : ∃ xs, rawRes (look S.fr) (look S.m) rs = some xs ∧ raw1 xs = res) (hc : ∃ zs, res = .tup zs ∧ closeds zs = true) (hm : ∀ e ∈ rgA 0 g1 g2 42 40 ts lk t, look S.m e.1 = some e.2) : postA rs res (rgA 0 1 1 1002 1003 ts lk t) e S := by
  obtain ⟨zs, rfl, hz⟩ := hc
  obtain ⟨xs, hr, hx⟩ := hrx
  obtain ⟨L, hLd⟩ : ∃ L : Names, L = (1002, some (42, g1)) :: (1003, some (40, g2)) :: idN 0 (rgL 0 ts lk) := ⟨_, rfl⟩
  have hL : ∀ k ∈ names (rgL 0 ts lk), look L k = some (some (k, 0)) := fun k hk => by
    subst hLd
    simp only [look]
    rw [if_neg (fun e => hp2 (by rw [e]; exact hk)), if_neg (fun e => hp3 (by rw [e]; exact hk)), look_idN 0 _ k hk]
  have hp : look L 1002 = some (some (42, g1)) := by rw [hLd]; rfl
  have hq : look L 1003 = some (some (40, g2)) := by rw [hLd]; rfl
  have hfit := fitA (L := L) hf 0 1 1002 1003 hm hL hp hq
  have hz1 := FitL_refl (m := look S.m) (L := L) zs hz
  have hsr := srcsA (t := t) (L := L) 0 1 1 1002 1003 hL hp hq
  have hn2 := rgA_nodup hf 0 1 lk t (p := 42) (q := 40) (by omega) (low_no' (by omega)) (low_no' (by omega))
  have hfl : ∀ e ∈ flatT 0 ts, e.1 ∈ names (rgL 0 ts lk) := fun e he => List.mem_cons_of_mem _ (List.mem_cons_of_mem _ (List.mem_map.2 ⟨e, he, rfl⟩))
  refine ⟨he, xs, L, [], hr, ⟨?_, ?_, ?_, ⟨rgA_nodup hf 0 1 lk t (by omega) hp2 hp3, fun e he => (hfit e he).1, fun e he u hu => ?_, ?_, fun u hu => (by cases hu), fun e he => (hfit e he).2.2⟩, fun e he hg => ?_⟩⟩
  · rw [hx]; exact hz1.1
  · intro u hu
    rw [hx] at hu
    have e : touchR (look S.m) (.tup zs) (.tup zs) = touchL (look S.m) zs zs := rfl
    rw [e, hz1.2] at hu
    exact hu
  · simp only [Stamped]; exact closeds_stamped zs hz
  · rw [(hfit e he).2.1] at hu
    cases hu
  · rw [hsr]; exact hn2
  · rcases List.mem_cons.1 he with rfl | he
    · exact hL 1000 (rg_names.2 (.inl rfl))
    rcases List.mem_cons.1 he with rfl | he
    · exact hL 1001 (rg_names.2 (.inr (.inl rfl)))
    rcases List.mem_cons.1 he with rfl | he
    · simp [Loc.gen] at hg
    rcases List.mem_cons.1 he with rfl | he
    · simp [Loc.gen] at hg
    · exact hL _ (hfl e he)

theorem radd_bad {ts : List Tr} (hf : Fine ts) (lk : Nat) (seed : Dg) (h : Int) (hh : h < 0 ∨ 6 < h) :
    Meets Tryd.prog Gt fn_ring_Ring_Add [.ptr 1000 0 0, dv seed, .v (.int .i64 h)] (rgL 0 ts lk) false (.tup [keyA Dg.zero 0, .v (.int .i64 1)]) (rgL 0 ts lk) := by
  have hs := rg_sane hf lk
  have hres := ok_res2 (M := rgL 0 ts lk) (ok_node (okL_two (ok_dv _ Dg.zero) (ok_v _ (.int .i64 (0 : Nat))))) (ok_v (rgL 0 ts lk) (.int .i64 1))
  refine meets_of_go mix k_ring_Ring_Add (good_id hs hres) ?_
  have m1 := knew_bad seed h hh
  have hX : ∀ k ∈ names [(4, Loc.var 2 (dv seed)), (6, .var 3 (keyA Dg.zero 0))], k ∉ names (rgL 0 ts lk) := X_low (by simp [names])
  have hown0 := look_own0 hs hX
  generalize hM : rgL 0 ts lk = M at *
  unfold rgL at hM
  subst hM
  generalize ts.map (trE 0) = E at *
  generalize flatT 0 ts = H at *
  simp
  refine call_intro m1 ?_ ?_
  · simp
  simp
  exact post_id (.inr rfl) hs rfl rfl hres hown0
theorem radd_dup {ts : List Tr} (hf : Fine ts) (lk : Nat) {x : Tr} (hx : x ∈ ts) (seed : Dg) (h : Nat) (hh : h ≤ 6) (hr : x.t.root = (oneN seed h).root) (hth : x.t.h = h) :
    Meets Tryd.prog Gt fn_ring_Ring_Add [.ptr 1000 0 0, dv seed, .v (.int .i64 (h : Nat))] (rgL 0 ts lk) false (.tup [keyA Dg.zero 0, .v (.int .i64 9)]) (rgL 0 ts lk) := by
  have hs := rg_sane hf lk
  have hres := ok_res2 (M := rgL 0 ts lk) (ok_node (okL_two (ok_dv _ Dg.zero) (ok_v _ (.int .i64 (0 : Nat))))) (ok_v (rgL 0 ts lk) (.int .i64 9))
  refine meets_of_go mix k_ring_Ring_Add (good_id hs hres) ?_
  have m1 := knewI_meets seed h hh
  unfold oneN at hr
  dsimp only at hr
  have hl := leavesD_length seed 32 (2 ^ h)
  have h64 : 2 ^ h ≤ 64 := Nat.le_trans (Nat.pow_le_pow_right (by omega) hh) (by decide)
  generalize leavesD seed 32 (2 ^ h) = ls at *
  have m2 := kkeyI_meets seed h ls (by omega)
  generalize rootD ls = root at *
  subst hth
  have hX : ∀ k ∈ names [(4, Loc.var 2 (dv seed)), (6, .var 3 (keyA Dg.zero 0)), (10, .var 19 (keyA root x.t.h))], k ∉ names (rgL 0 ts lk) := X_low (by simp [names])
  have hown0 := look_own0 hs hX
  obtain ⟨i, hi, hge⟩ := find_tr hf hx
  have hfa := ents_find 0 x.t.root x.t.h ts
  rw [hi] at hfa
  have hall := ents_all 0 ts
  have hge2 : (ts.map (trE 0))[i]? = some (trE 0 x) := by rw [List.getElem?_map, hge]; rfl
  have hk := keyA_cmp x.t.root x.t.h
  have htc := trA_closed seed x.t.h ls
  generalize hM : rgL 0 ts lk = M at *
  unfold rgL at hM
  subst hM
  generalize ts.map (trE 0) = E at *
  generalize flatT 0 ts = H at *
  unfold trE at hge2
  simp
  refine call_intro m1 ?_ ?_
  · simp
  simp
  rw [hr] at hfa hge2 hk
  refine call_intro m2 ?_ ?_
  · simp [htc]
  simp [hk, hall, hfa, hge2]
  exact post_id (.inr rfl) hs rfl rfl hres hown0
theorem radd_tr {ts : List Tr} (hf : Fine ts) (lk : Nat) (hlk : lk ≤ 1000000) (seed : Dg) (h : Nat) (hh : h ≤ 6) (hn : ∀ x ∈ ts, x.key ≠ ((oneN seed h).root, h)) :
    Meets Tryd.prog Gt fn_ring_Ring_Add [.ptr 1000 0 0, dv seed, .v (.int .i64 (h : Nat))] (rgL 0 ts lk) false (.tup [keyA (oneN seed h).root h, .v (.int .i64 0)]) (rgA 0 1 1 1002 1003 ts lk (oneN seed h)) := by
  have hs := rg_sane hf lk
  have hp2 : 1002 ∉ names (rgL 0 ts lk) := low_no (by omega) (by omega)
  have hp3 : 1003 ∉ names (rgL 0 ts lk) := low_no (by omega) (by omega)
  have hgood : goodM false (rgA 0 1 1 1002 1003 ts lk (oneN seed h)) (rgA 0 1 1 1002 1003 ts lk (oneN seed h)) = true := rgA_good hf lk _ hp2 hp3
  have hnd := rgA_nodup hf 0 1 lk (oneN seed h) (p := 1002) (q := 1003) (by omega) hp2 hp3
  have hpost := fun rs e (S : SA) he hrx g1 g2 hm => post_add (rs := rs) (e := e) (S := S) (res := .tup [keyA (oneN seed h).root h, .v (.int .i64 0)]) (g1 := g1) (g2 := g2) hf lk (oneN seed h) hp2 hp3 he hrx ⟨_, rfl, by simp [closed]⟩ hm
  have hlow := flat_low (c := 0) (ts := ts)
  have hat := flat_at (c := 0) hf
  refine meets_of_go mix k_ring_Ring_Add ⟨hgood, (by simp only [goodA, goods, Bool.and_eq_true]; exact ⟨goodA_closed (keyA_closed _ _), rfl, trivial⟩), hnd⟩ ?_
  have m1 := knewI_meets seed h hh
  have hfa := ents_find 0 (oneN seed h).root h ts
  rw [find_no hn] at hfa
  have hall := ents_all 0 ts
  have hk := keyA_cmp (oneN seed h).root h
  have w1 : IntKind.i64.wrap ((lk : Int) + 1) = ((lk + 1 : Nat) : Int) := w64_succ (by omega)
  unfold oneN at *
  dsimp only at *
  have hl := leavesD_length seed 32 (2 ^ h)
  have h64 : 2 ^ h ≤ 64 := Nat.le_trans (Nat.pow_le_pow_right (by omega) hh) (by decide)
  generalize leavesD seed 32 (2 ^ h) = ls at *
  have m2 := kkeyI_meets seed h ls (by omega)
  generalize rootD ls = root at *
  have htc := trA_closed seed h ls
  clear hp2 hp3 hgood hnd hn
  unfold rgA at hpost ⊢
  generalize hM : rgL 0 ts lk = M at *
  unfold rgL at hM
  subst hM
  generalize ts.map (trE 0) = E at *
  generalize flatT 0 ts = H at *
  simp
  refine call_intro m1 ?_ ?_
  · simp
  simp
  refine call_intro m2 ?_ ?_
  · simp [htc]
  simp [hk, hall, hfa, w1]
  refine hpost _ _ _ (.inr rfl) ⟨[.node [dv root, .v (.int .i64 (h : Nat))], .v (.int .i64 0)], by simp, rfl⟩ 36 34 fun e he => ?_
  rcases List.mem_cons.1 he with rfl | he
  · simp
  rcases List.mem_cons.1 he with rfl | he
  · simp
  rcases List.mem_cons.1 he with rfl | he
  · simp
  rcases List.mem_cons.1 he with rfl | he
  · simp [opE_nil]
  · have h1 := hlow e he
    have h2 := hat e he
    simp [look, h1, h2]
end Go.Proofs.YtphggannefpleaaDoor.WL

end
