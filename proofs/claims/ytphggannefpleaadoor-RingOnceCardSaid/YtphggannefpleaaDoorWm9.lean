/- Texts put together: S06m, S06c, S06d, S06e. -/
import Derived.Test.YtphggannefpleaaDoorWm8
import Derived.WalkKit
import Derived.Maps.Ext
import Derived.Maps.RangeWalk
import Derived.Laws.IdiomRangeMap
import Derived.Deep.LoopGhost
import Derived.Shelf.Abstract
section
/-
  CHAPTER 06: more contracts of a ring with any number of trees.
-/
namespace Go.Proofs.YtphggannefpleaaDoor.WL
open Go
set_option maxHeartbeats 8000000
attribute [local irreducible] comp hb sha leafD pairD secD shutD wholeD pubD ofD leavesD nE nO

theorem ok_res1 {M : List (Nat × Loc)} {a : AV} (h : okA M a = true) : okA M a = true ∨ ∃ zs, a = .tup zs ∧ okL M zs = true := .inl h
theorem ok_sig0 (M : List (Nat × Loc)) : okA M sig0 = true := ok_node (okL_three (ok_v _ _) (ok_node (okL_two (ok_v _ _) (ok_v _ _))) (ok_v _ _))
theorem take_no {ts : List Tr} (hf : Fine ts) (lk : Nat) {root : Dg} {h : Nat} (hn : ∀ x ∈ ts, x.key ≠ (root, h)) :
    Meets Tryd.prog Gt fn_ring_Ring_Take [.ptr 1000 0 0, keyA root h] (rgL 0 ts lk) false (.tup [.v (.int .i64 0), .v (.int .i64 7)]) (rgL 0 ts lk) := by
  have hs := rg_sane hf lk
  have hres := ok_res2 (ok_v (rgL 0 ts lk) (.int .i64 0)) (ok_v (rgL 0 ts lk) (.int .i64 7))
  refine meets_of_go mix k_ring_Ring_Take (good_id hs hres) ?_
  have m1 := entry_no hf lk hn
  have hres1 := ok_res2 (ok_v (rgL 0 ts lk) (.pointer none)) (ok_v (rgL 0 ts lk) (.int .i64 7))
  have hX : ∀ k ∈ names [(3, Loc.var 2 (keyA root h))], k ∉ names (rgL 0 ts lk) := X_low (by simp [names])
  have hown := look_own1 hs hX
  have hown0 := look_own0 hs hX
  have hargs : okL (rgL 0 ts lk) [.ptr 1000 0 0, keyA root h] = true := okL_two (ok_ptr (x := .node [.oref 1001 0 true]) rfl) (ok_node (okL_two (ok_dv _ _) (ok_v _ _)))
  generalize hM : rgL 0 ts lk = M at *
  unfold rgL at hM
  subst hM
  generalize ts.map (trE 0) = E at *
  generalize flatT 0 ts = H at *
  simp [keyA]
  refine call_same 0 m1 hs hargs rfl hres1 hown (fun z => ?_)
  simp [resRe, reL, reA]
  exact post_id (.inr rfl) hs rfl rfl hres hown0
theorem take_over {ts : List Tr} (hf : Fine ts) (lk : Nat) {x : Tr} (hx : x ∈ ts) (hh : x.t.h ≤ 6) (hn : 2 ^ x.t.h ≤ x.t.nx) :
    Meets Tryd.prog Gt fn_ring_Ring_Take [.ptr 1000 0 0, keyA x.t.root x.t.h] (rgL 0 ts lk) false (.tup [.v (.int .i64 0), .v (.int .i64 6)]) (rgL 0 ts lk) := by
  have hs := rg_sane hf lk
  have hres := ok_res2 (ok_v (rgL 0 ts lk) (.int .i64 0)) (ok_v (rgL 0 ts lk) (.int .i64 6))
  refine meets_of_go mix k_ring_Ring_Take (good_id hs hres) ?_
  have m1 := entry_tr hf lk hx
  have hres1 := ok_res2 (ok_ptr (off := 0) (rg_look (c := 0) (lk := lk) hf hx).1) (ok_v (rgL 0 ts lk) (.int .i64 0))
  have hX : ∀ k ∈ names [(3, Loc.var 2 (keyA x.t.root x.t.h))], k ∉ names (rgL 0 ts lk) := X_low (by simp [names])
  have hown := look_own1 hs hX
  have hown0 := look_own0 hs hX
  have hargs : okL (rgL 0 ts lk) [.ptr 1000 0 0, keyA x.t.root x.t.h] = true := okL_two (ok_ptr (x := .node [.oref 1001 0 true]) rfl) (ok_node (okL_two (ok_dv _ _) (ok_v _ _)))
  obtain ⟨hE, hO⟩ := look_flat 0 ts x hf.ids hx
  have hmin : min x.t.h 64 = x.t.h := by omega
  obtain ⟨q, hq⟩ : ∃ q : Nat, q = 2 ^ x.t.h := ⟨_, rfl⟩
  have hq64 : q ≤ 64 := by rw [hq]; exact Nat.le_trans (Nat.pow_le_pow_right (by omega) hh) (by decide)
  have hqi : ((2 : Int) ^ x.t.h) = (q : Int) := by rw [hq]; simp
  have w1 : IntKind.i64.wrap (q : Int) = (q : Int) := w64_id (by omega)
  rw [← hq] at hn
  have hnq : (q : Int) ≤ (x.t.nx : Nat) := by omega
  generalize hM : rgL 0 ts lk = M at *
  unfold rgL at hM
  subst hM
  generalize ts.map (trE 0) = E at *
  generalize flatT 0 ts = H at *
  unfold locE at hE
  simp [keyA]
  refine call_same 0 m1 hs hargs rfl hres1 hown (fun z => ?_)
  simp [resRe, reL, reA, hmin, hqi, w1, hnq, hn, hE, nE_low, nO_low, nE_lt, nO_lt, nE_low', nO_low', look_ins]
  exact post_id (.inr rfl) hs rfl rfl hres hown0

theorem sign_no {ts : List Tr} (hf : Fine ts) (lk : Nat) {root : Dg} {h : Nat} (hn : ∀ x ∈ ts, x.key ≠ (root, h)) (n : Int) (d : Dg) :
    Meets Tryd.prog Gt fn_ring_Ring_Sign [.ptr 1000 0 0, keyA root h, .v (.int .i64 n), dv d] (rgL 0 ts lk) false (.tup [sig0, .v (.int .i64 7)]) (rgL 0 ts lk) := by
  have hs := rg_sane hf lk
  have hres := ok_res2 (ok_sig0 (rgL 0 ts lk)) (ok_v (rgL 0 ts lk) (.int .i64 7))
  refine meets_of_go mix k_ring_Ring_Sign (good_id hs hres) ?_
  have m1 := entry_no hf lk hn
  have hres1 := ok_res2 (ok_v (rgL 0 ts lk) (.pointer none)) (ok_v (rgL 0 ts lk) (.int .i64 7))
  have hX : ∀ k ∈ names [(5, Loc.var 2 (keyA root h)), (7, .var 3 (dv d)), (8, .var 4 sig0)], k ∉ names (rgL 0 ts lk) := X_low (by simp [names])
  have hown := look_own1 hs hX
  have hown0 := look_own0 hs hX
  have hargs : okL (rgL 0 ts lk) [.ptr 1000 0 0, keyA root h] = true := okL_two (ok_ptr (x := .node [.oref 1001 0 true]) rfl) (ok_node (okL_two (ok_dv _ _) (ok_v _ _)))
  generalize hM : rgL 0 ts lk = M at *
  unfold rgL at hM
  subst hM
  generalize ts.map (trE 0) = E at *
  generalize flatT 0 ts = H at *
  simp [keyA]
  refine call_same 0 m1 hs hargs rfl hres1 hown (fun z => ?_)
  simp [resRe, reL, reA]
  exact post_id (.inr rfl) hs rfl rfl hres hown0
theorem sign_shut {ts : List Tr} (hf : Fine ts) (lk : Nat) {x : Tr} (hx : x ∈ ts) (n : Int) (d : Dg) (hK : ∀ p ∈ x.t.K, p.1 ≠ n) :
    Meets Tryd.prog Gt fn_ring_Ring_Sign [.ptr 1000 0 0, keyA x.t.root x.t.h, .v (.int .i64 n), dv d] (rgL 0 ts lk) false (.tup [sig0, .v (.int .i64 9)]) (rgL 0 ts lk) := by
  have hs := rg_sane hf lk
  have hres := ok_res2 (ok_sig0 (rgL 0 ts lk)) (ok_v (rgL 0 ts lk) (.int .i64 9))
  refine meets_of_go mix k_ring_Ring_Sign (good_id hs hres) ?_
  have m1 := entry_tr hf lk hx
  have hres1 := ok_res2 (ok_ptr (off := 0) (rg_look (c := 0) (lk := lk) hf hx).1) (ok_v (rgL 0 ts lk) (.int .i64 0))
  have hX : ∀ k ∈ names [(5, Loc.var 2 (keyA x.t.root x.t.h)), (7, .var 3 (dv d)), (8, .var 4 sig0)], k ∉ names (rgL 0 ts lk) := X_low (by simp [names])
  have hown := look_own1 hs hX
  have hown0 := look_own0 hs hX
  have hargs : okL (rgL 0 ts lk) [.ptr 1000 0 0, keyA x.t.root x.t.h] = true := okL_two (ok_ptr (x := .node [.oref 1001 0 true]) rfl) (ok_node (okL_two (ok_dv _ _) (ok_v _ _)))
  obtain ⟨hE, hO⟩ := look_flat 0 ts x hf.ids hx
  have hfi : x.t.K.findIdx? (fun p => decide (p.1 = n)) = none := by
    rw [List.findIdx?_eq_none_iff]
    intro p hp
    simpa using hK p hp
  have hfa := opE_find n x.t.K
  rw [hfi] at hfa
  have hcs : cmpA (.int .i64) (.v (.int .i64 n)) (.v (.int .i64 n)) = some true := by simp [cmpA]
  generalize hM : rgL 0 ts lk = M at *
  unfold rgL at hM
  subst hM
  generalize ts.map (trE 0) = E at *
  generalize flatT 0 ts = H at *
  unfold locE at hE
  unfold locO at hO
  simp [keyA]
  refine call_same 0 m1 hs hargs rfl hres1 hown (fun z => ?_)
  simp [resRe, reL, reA, hcs, hfa, hE, hO, nE_low, nO_low, nE_lt, nO_lt, nE_low', nO_low', look_ins]
  exact post_id (.inr rfl) hs rfl rfl hres hown0
theorem ok_sig {M : List (Nat × Loc)} (s : Sig) : okA M s.avS = true := by
  have h1 : ∀ l : List Dg, okA M (.sl 32 (Dgs l)) = true := fun l => ok_closed (by simp [closed]) rfl
  exact ok_node (okL_three (ok_v _ _) (ok_node (okL_two (h1 _) (h1 _))) (h1 _))
theorem sign_tr {ts : List Tr} (hf : Fine ts) (lk : Nat) {x : Tr} (hx : x ∈ ts) (n : Nat) (d : Dg) (hn : n < x.t.ls.length) (hl : x.t.ls.length ≤ 1000000) (hK : ∃ p ∈ x.t.K, p.1 = (n : Int)) (hd : (x.t.K.map (·.1)).Nodup) :
    Meets Tryd.prog Gt fn_ring_Ring_Sign [.ptr 1000 0 0, keyA x.t.root x.t.h, .v (.int .i64 (n : Nat)), dv d] (rgL 0 ts lk) false (.tup [(signK x.t.seed x.t.ls n d 32).avS, .v (.int .i64 0)]) (rgL 0 (upT ts x.id (signT x.t n)) lk) := by
  have hs := rg_sane hf lk
  have hkk : (signT x.t n).root = x.t.root ∧ (signT x.t n).h = x.t.h := ⟨rfl, rfl⟩
  have hs' := rg_sane (upT_fine hf hx hkk) lk
  have hres := ok_res2 (ok_sig (M := rgL 0 (upT ts x.id (signT x.t n)) lk) (signK x.t.seed x.t.ls n d 32)) (ok_v _ (.int .i64 0))
  refine meets_of_go mix k_ring_Ring_Sign (good_id hs' hres) ?_
  have m1 := entry_tr hf lk hx
  have m2 := ksignV_meets x.t.seed x.t.h x.t.ls n d hn hl
  have hres1 := ok_res2 (ok_ptr (off := 0) (rg_look (c := 0) (lk := lk) hf hx).1) (ok_v (rgL 0 ts lk) (.int .i64 0))
  have hX : ∀ k ∈ names [(5, Loc.var 2 (keyA x.t.root x.t.h)), (7, .var 3 (dv d)), (8, .var 4 sig0)], k ∉ names (rgL 0 ts lk) := X_low (by simp [names])
  have hown := look_own1 hs hX
  have hX2 : ∀ k ∈ names [(5, Loc.var 2 (keyA x.t.root x.t.h)), (7, .var 3 (dv d)), (8, .var 4 (signK x.t.seed x.t.ls n d 32).avS)], k ∉ names (rgL 0 ts lk) := X_low (by simp [names])
  have hend := fun m h1 h2 h3 => up_look (m := m) hf lk hx hkk hX2 h1 h2 h3
  have hargs : okL (rgL 0 ts lk) [.ptr 1000 0 0, keyA x.t.root x.t.h] = true := okL_two (ok_ptr (x := .node [.oref 1001 0 true]) rfl) (ok_node (okL_two (ok_dv _ _) (ok_v _ _)))
  obtain ⟨hE, hO⟩ := look_flat 0 ts x hf.ids hx
  generalize signK x.t.seed x.t.ls n d 32 = sg at *
  obtain ⟨i, hi⟩ : ∃ i, x.t.K.findIdx? (fun p => decide (p.1 = (n : Int))) = some i := by
    rw [← Option.isSome_iff_exists, List.findIdx?_isSome]
    obtain ⟨p, hp, e⟩ := hK
    exact List.any_eq_true.2 ⟨p, hp, by simpa using e⟩
  obtain ⟨hlt, hpi, _⟩ := List.findIdx?_eq_some_iff_getElem.1 hi
  have hpi' : (x.t.K[i]).1 = (n : Int) := by simpa using hpi
  have hfa := opE_find (n : Int) x.t.K
  rw [hi] at hfa
  have hge := opE_get x.t.K i
  rw [List.getElem?_eq_getElem hlt, Option.map_some] at hge
  have her := opE_erase x.t.K i
  rw [erase_filter hd (List.getElem?_eq_getElem hlt), hpi'] at her
  have hcs : cmpA (.int .i64) (.v (.int .i64 (n : Int))) (.v (.int .i64 (n : Int))) = some true := by simp [cmpA]
  have hee := nE_nO x.id x.id
  have hee' : ¬ nO x.id = nE x.id := fun e => hee e.symm
  have htc := trA_closed x.t.seed x.t.h x.t.ls
  generalize hM : rgL 0 ts lk = M at *
  unfold rgL at hM
  subst hM
  generalize ts.map (trE 0) = E at *
  generalize flatT 0 ts = H at *
  unfold locE at hE
  unfold locO at hO
  simp [keyA]
  refine call_same 0 m1 hs hargs rfl hres1 hown (fun z => ?_)
  simp [resRe, reL, reA, hcs, hfa, hge, her, hE, hO, nE_low, nO_low, nE_lt, nO_lt, nE_low', nO_low', look_ins, hee, hee']
  refine call_intro m2 ?_ ?_
  · simp [htc]
  simp [Sig.avS, hE, hO, nE_low, nO_low, nE_lt, nO_lt, nE_low', nO_low', look_ins, hee, hee']
  refine post_id (.inr rfl) hs' rfl ?_ hres (hend _ ?_ ?_ ?_)
  · simp [Sig.avS]
  · simp [hE, nE_low, nO_low, nE_lt, nO_lt, nE_low', nO_low', look_ins, hee, locE, signT]
  · simp [nE_low, nO_low, nE_lt, nO_lt, nE_low', nO_low', look_ins, hee', locO, signT]
  · intro k hk1 hk2
    simp [look, look_ins, hk1, hk2, keyA, Sig.avS]

theorem retire_no {ts : List Tr} (hf : Fine ts) (lk : Nat) {root : Dg} {h : Nat} (hn : ∀ x ∈ ts, x.key ≠ (root, h)) :
    Meets Tryd.prog Gt fn_ring_Ring_Retire [.ptr 1000 0 0, keyA root h] (rgL 0 ts lk) false (.v (.int .i64 7)) (rgL 0 ts lk) := by
  have hs := rg_sane hf lk
  have hres := ok_res1 (ok_v (rgL 0 ts lk) (.int .i64 7))
  refine meets_of_go mix k_ring_Ring_Retire (good_id hs hres) ?_
  have m1 := entry_no hf lk hn
  have hres1 := ok_res2 (ok_v (rgL 0 ts lk) (.pointer none)) (ok_v (rgL 0 ts lk) (.int .i64 7))
  have hX : ∀ k ∈ names [(3, Loc.var 2 (keyA root h))], k ∉ names (rgL 0 ts lk) := X_low (by simp [names])
  have hown := look_own1 hs hX
  have hown0 := look_own0 hs hX
  have hargs : okL (rgL 0 ts lk) [.ptr 1000 0 0, keyA root h] = true := okL_two (ok_ptr (x := .node [.oref 1001 0 true]) rfl) (ok_node (okL_two (ok_dv _ _) (ok_v _ _)))
  generalize hM : rgL 0 ts lk = M at *
  unfold rgL at hM
  subst hM
  generalize ts.map (trE 0) = E at *
  generalize flatT 0 ts = H at *
  simp [keyA]
  refine call_same 0 m1 hs hargs rfl hres1 hown (fun z => ?_)
  simp [resRe, reL, reA]
  exact post_id (.inr rfl) hs rfl rfl hres hown0

/-- A tree is gone. -/
def goT (ts : List Tr) (i : Nat) : List Tr := ts.filter fun y => !decide (y.id = i)
theorem goT_fine {ts : List Tr} (hf : Fine ts) (i : Nat) : Fine (goT ts i) := ⟨hf.ids.sublist (List.filter_sublist.map _), hf.keys.sublist (List.filter_sublist.map _)⟩
theorem goT_erase : ∀ {ts : List Tr} {x : Tr} {i : Nat}, (ts.map (·.id)).Nodup → ts[i]? = some x → ts.eraseIdx i = goT ts x.id
  | [], _, _, _, h => by simp at h
  | y :: ts, x, 0, hn, h => by
    simp only [List.map_cons, List.nodup_cons] at hn
    obtain rfl : y = x := by simpa using h
    unfold goT
    rw [List.eraseIdx_cons_zero, List.filter_cons_of_neg (by simp)]
    refine (List.filter_eq_self.2 fun z hz => ?_).symm
    have : z.id ≠ y.id := fun e => hn.1 (e ▸ List.mem_map.2 ⟨z, hz, rfl⟩)
    simpa using this
  | y :: ts, x, i + 1, hn, h => by
    simp only [List.map_cons, List.nodup_cons] at hn
    have h1 : ts[i]? = some x := by simpa using h
    have hm := List.mem_of_getElem? h1
    have : y.id ≠ x.id := fun e => hn.1 (e ▸ List.mem_map.2 ⟨x, hm, rfl⟩)
    have ih := goT_erase hn.2 h1
    unfold goT at ih ⊢
    rw [List.eraseIdx_cons_succ, List.filter_cons_of_pos (by simpa using this), ih]
theorem retire_tr {ts : List Tr} (hf : Fine ts) (lk : Nat) {x : Tr} (hx : x ∈ ts) :
    Meets Tryd.prog Gt fn_ring_Ring_Retire [.ptr 1000 0 0, keyA x.t.root x.t.h] (rgL 0 ts lk) false (.v (.int .i64 0)) (rgL 0 (goT ts x.id) lk) := by
  have hs := rg_sane hf lk
  have hs' := rg_sane (goT_fine hf x.id) lk
  have hres := ok_res1 (ok_v (rgL 0 (goT ts x.id) lk) (.int .i64 0))
  refine meets_of_go mix k_ring_Ring_Retire (good_id hs' hres) ?_
  have m1 := entry_tr hf lk hx
  have hres1 := ok_res2 (ok_ptr (off := 0) (rg_look (c := 0) (lk := lk) hf hx).1) (ok_v (rgL 0 ts lk) (.int .i64 0))
  have hX : ∀ k ∈ names [(3, Loc.var 2 (keyA x.t.root x.t.h))], k ∉ names (rgL 0 ts lk) := X_low (by simp [names])
  have hown := look_own1 hs hX
  have hown0 := look_own0 hs hX
  have hargs : okL (rgL 0 ts lk) [.ptr 1000 0 0, keyA x.t.root x.t.h] = true := okL_two (ok_ptr (x := .node [.oref 1001 0 true]) rfl) (ok_node (okL_two (ok_dv _ _) (ok_v _ _)))
  obtain ⟨i, hi, hge⟩ := find_tr hf hx
  have hfa := ents_find 0 x.t.root x.t.h ts
  rw [hi] at hfa
  have hall := ents_all 0 ts
  have hge2 : (ts.map (trE 0))[i]? = some (trE 0 x) := by rw [List.getElem?_map, hge]; rfl
  have hk := keyA_cmp x.t.root x.t.h
  have her : (ts.map (trE 0)).eraseIdx i = (goT ts x.id).map (trE 0) := by rw [← goT_erase hf.ids hge, ChangeMaps.map_eraseIdx]
  have hsub : ∀ e ∈ flatT 0 (goT ts x.id), e ∈ flatT 0 ts := fun e he => by
    obtain ⟨y, hy, h⟩ := flat_mem.1 he
    exact flat_mem.2 ⟨y, (List.mem_filter.1 hy).1, h⟩
  have hfl : ∀ e ∈ flatT 0 (goT ts x.id), e.1 ≠ 1001 := fun e he => by
    obtain ⟨y, _, rfl | rfl⟩ := flat_mem.1 he
    · have := big_le; unfold nE; omega
    · have := big_le; unfold nO; omega
  have hend : ∀ m : List (Nat × Loc), look m 1000 = some (.var 0 (.node [.oref 1001 0 true])) → look m 1001 = some (.ob 0 (.map true 33 false 1) (.node [.node ((goT ts x.id).map (trE 0)), .v (.int .i64 (lk : Nat))])) →
      (∀ k, k ≠ 1001 → look m k = look ([(3, Loc.var 2 (keyA x.t.root x.t.h))] ++ rgL 0 ts lk) k) → ∀ e ∈ rgL 0 (goT ts x.id) lk, look m e.1 = some e.2 := fun m h1 h2 h3 e he => by
    rcases List.mem_cons.1 he with rfl | he
    · exact h1
    rcases List.mem_cons.1 he with rfl | he
    · exact h2
    rw [h3 _ (hfl e he)]
    exact hown0 e (List.mem_cons_of_mem _ (List.mem_cons_of_mem _ (hsub e he)))
  generalize hM : rgL 0 ts lk = M at *
  unfold rgL at hM
  subst hM
  generalize (goT ts x.id).map (trE 0) = E' at *
  generalize ts.map (trE 0) = E at *
  generalize flatT 0 ts = H at *
  unfold trE at hge2
  simp [keyA]
  refine call_same 0 m1 hs hargs rfl hres1 hown (fun z => ?_)
  simp [resRe, reL, reA, hall, hk, hfa, hge2, her]
  refine post_id (.inr rfl) hs' rfl rfl hres (hend _ ?_ ?_ ?_)
  · simp
  · simp
  · intro k hk1
    simp [look, keyA]
    grind
end Go.Proofs.YtphggannefpleaaDoor.WL

end
section
/-
  CHAPTER 06: maps.DeleteFunc over a map of numbers, raw: which entries stay, with their stamps.
-/
namespace Go.Proofs.YtphggannefpleaaDoor.WL
open Go Go.Proofs Go.RowKit

theorem mapInt_key : chkSh Tryd.prog (.int .i64) 3 = true := by kernel_rfl

set_option maxHeartbeats 4000000 in
set_option maxRecDepth 100000 in
theorem delF_calls (K : List (Int × Nat)) (clock b g : Nat) (cb : Array Value) (pd : Int → Bool) (ok : OpOk K clock) (w : World)
    (eg : ∀ args w, (callFunc g args).run Tryd.prog w = .ok (.enter g args) w) (hb : w.heap[b]? = some (.map (opR K) clock))
    (hdel : ∀ (W : World) (n : Int), w.grownBy W (some b) → Calls Tryd.prog g (#[.int .i64 n, .bool true] ++ cb) W fun e w' => e = .returned (.bool (pd n)) ∧ W.grownBy w' none) :
    Calls Tryd.prog 35 #[.map (some b), .func (.func g) #[] cb] w fun e w' =>
      e = .returned (.tuple #[]) ∧ w'.heap[b]? = some (.map (opR (K.filter fun q => !pd q.1)) clock) ∧ w.grownBy w' (some b) := by
  have mixed := mix
  have HD : Aside _ := hdel
  clear hdel
  go_enter Tryd.func35, Tryd.ntmps35
  go_wp2_with (first
    | (at_range; refine wpList_range_rawD _ rfl _ _ rfl _ _ Tryd.underlying71 b K clock rfl hb ?_; intro w0 hrg0 hg0 hs0)
    | go_in)
  go_frame
  go_loopw [8] (fun _ wr => ∃ (seen : List Nat), WalkD wr b w.heap.size clock (struckK pd K seen) seen ∧ w.grownBy wr (some b))
    (fun _ wr => leftD K wr w.heap.size)
  case atStart => exact ⟨[], by rw [struck_nil]; exact hrg0, hg0.but _⟩
  case round =>
    obtain ⟨seen, hrg, hgw⟩ := hrel
    have ok1 : OpOk (struckK pd K seen) clock := ok.filter _
    go_wp2_with (first
      | (at_next; refine wpList_next_rawD _ rfl _ rfl b w.heap.size clock _ seen ok1 rfl hrg ?_ ?_)
      | go_in)
    · intro hl0
      go_wp2
      go_end0
      exact ⟨rfl, by rw [← struck_end (fun p hp => hl0 p.1 p.2 hp)]; exact hrg.map, hgw⟩
    · intro n bn w1 hp1 hns hrg1 hg1 hs1 hen
      have hp := struck_mem hp1
      have hgw1 := hgw.andThen hg1 (fun j hj => by cases hj; exact Or.inl (Nat.le_refl _))
      have hc := HD.out w1 n hgw1
      have hll := left_lt (p := (n, bn)) hp hns
      cases hpd : pd n <;> rw [hpd] at hc
      · go_wp2_with (first
          | (go_at_fn g; refine hc.mono ?_; rintro e w2 ⟨rfl, hg2⟩)
          | go_in)
        have hrg2 := hrg1.grown hg2
        go_roundw
        case rel => exact ⟨_, by rw [struck_stays (p := (n, bn)) ok hp hpd]; exact hrg2, hgw1.andThen hg2 (fun j hj => by cases hj)⟩
        case measure => rw [hrg2.leftD, hrg.leftD]; exact hll
      · go_wp2_with (first
          | (go_at_fn g; refine hc.mono ?_; rintro e w2 ⟨rfl, hg2⟩; have hrg2 := hrg1.grown hg2)
          | (at_delete; refine wpList_delete_rawD _ rfl _ _ _ _ rfl _ Tryd.underlying71 mapInt_key b w.heap.size clock _ _ ok1 rfl hrg2 (n, bn) hp1 rfl ?_; intro w3 hrg3 hg3 hs3; go_frame)
          | go_in)
        have e3 := struck_goes (seen := seen) ok hp hpd
        rw [e3] at hrg3
        go_roundw
        case rel => exact ⟨_, hrg3, (hgw1.andThen hg2 (fun j hj => by cases hj)).andThen hg3 (fun j hj => by cases hj; exact Or.inr rfl)⟩
        case measure => rw [hrg3.leftD, hrg.leftD]; exact hll
end Go.Proofs.YtphggannefpleaaDoor.WL

end
section
/-
  CHAPTER 06: Skip, by hand where it strikes.
-/
namespace Go.Proofs.YtphggannefpleaaDoor.WL
open Go Go.Proofs Go.RowKit
set_option maxHeartbeats 4000000

noncomputable def sqL : Code → Code
  | .seq a _ => a
  | c => c
noncomputable def sqR : Code → Code
  | .seq _ b => b
  | c => c
noncomputable def sqO : Code → Array Oper
  | .region _ ops _ => ops
  | _ => #[]
noncomputable def kBody : Code := match Tryd.f16.body with
  | some c => c
  | none => .skip
theorem k_body : Tryd.f16.body = some kBody := by kernel_rfl
noncomputable def kb1 : Code := sqR kBody
noncomputable def kb2 : Code := sqR kb1
noncomputable def kb3 : Code := sqR kb2
noncomputable def kb4 : Code := sqR kb3
noncomputable def kb5 : Code := sqR kb4
noncomputable def opsK : Array Oper := sqO (sqL kb4)
theorem k_seq : kBody = .seq (sqL kBody) (.seq (sqL kb1) (.seq (sqL kb2) (.seq (sqL kb3) (.seq (.region 5 opsK false) kb5)))) := by kernel_rfl
theorem opsK_size : opsK.size = 6 := by kernel_rfl
theorem opsK_0 : opsK[0]? = some (opsK[0]!) := by kernel_rfl
theorem opsK_1 : opsK[1]? = some (opsK[1]!) := by kernel_rfl
theorem opsK_2 : opsK[2]? = some (opsK[2]!) := by kernel_rfl
theorem opsK_3 : opsK[3]? = some (opsK[3]!) := by kernel_rfl
theorem opsK_c0 : chkOper Tryd.prog opsK 37 (opsK[0]!) ⟨some 31, .mov, [.t 7], none⟩ = true := by kernel_rfl
theorem opsK_c1 : chkOper Tryd.prog opsK 37 (opsK[1]!) ⟨some 32, .nilc, [.t 31], none⟩ = true := by kernel_rfl
theorem opsK_c2 : chkOper Tryd.prog opsK 37 (opsK[2]!) ⟨some 33, .faddr 2 1 false, [.t 32], none⟩ = true := by kernel_rfl
theorem opsK_c3 : chkOper Tryd.prog opsK 37 (opsK[3]!) ⟨some 34, .load false 1, [.t 33], none⟩ = true := by kernel_rfl
theorem opsK_4 : ∃ t p af, opsK[4]? = some ⟨some 35, .makeFunc (.func 36) #[] #[.tmp 5], t, p, af, none⟩ := by
  have h : opsK[4]? = some (opsK[4]!) := by kernel_rfl
  have h2 : opsK[4]! = ⟨some 35, .makeFunc (.func 36) #[] #[.tmp 5], (opsK[4]!).type, (opsK[4]!).pos, (opsK[4]!).after, none⟩ := by kernel_rfl
  exact ⟨_, _, _, h.trans (congrArg some h2)⟩
theorem opsK_5 : ∃ t p af at', opsK[5]? = some ⟨some 36, .call { callee := .value (.func 35), args := #[.tmp 34, .tmp 35], argTypes := at' }, t, p, af, none⟩ := by
  have h : opsK[5]? = some (opsK[5]!) := by kernel_rfl
  have h2 : opsK[5]! = ⟨some 36, .call { callee := .value (.func 35), args := #[.tmp 34, .tmp 35], argTypes := #[71, 82] }, (opsK[5]!).type, (opsK[5]!).pos, (opsK[5]!).after, none⟩ := by kernel_rfl
  exact ⟨_, _, _, _, h.trans (congrArg some h2)⟩

/-- The closure: is a number below? -/
theorem below_calls (B : Nat) (n m : Int) (W : World) (hc : W.cell? ⟨B, 0, none⟩ = some (.int .i64 n)) :
    Calls Tryd.prog 36 (#[.int .i64 m, .bool true] ++ #[.pointer (some ⟨B, 0, none⟩)]) W fun e w' => e = .returned (.bool (decide (m < n))) ∧ W.grownBy w' none := by
  have mixed := mix
  show Calls Tryd.prog 36 #[.int .i64 m, .bool true, .pointer (some ⟨B, 0, none⟩)] W _
  go_enter Tryd.func36, Tryd.ntmps36
  go_wp2
  go_ret
  exact ⟨rfl, ⟨rfl, rfl, rfl, Nat.le_refl _, fun _ _ _ => rfl⟩⟩

section
variable {w0 : World} {Ws I0 : Nat → Prop} {G : Nat → Option AV} {C0 C : Ctx}
theorem opE_raw (hw : WR w0 Ws I0 C) {l g : Nat} {K : List (Int × Nat)} {ck : Nat} {y : Value} (hp : SV C (.oref l g true) y) (hm : C.m l = some (.ob g (.map false 1 false 1) (.node [.node (opE K), .v (.int .i64 (ck : Nat))]))) :
    ∃ b, y = .map (some b) ∧ C.blk l = some b ∧ C.w.heap[b]? = some (.map (opR K) ck) := by
  obtain ⟨r, es, clock, ps, rfl, hb, hheap, hlist, hlens, hV, hcv⟩ := map_open hw hp hm
  obtain ⟨hlen, hent⟩ := ents_of (opE_all K) hlens hV
  have hck : clock = ck := by
    have := (Value.int.inj hcv).2
    omega
  subst hck
  have hpl : ps.length = K.length := by rw [← hlen]; simp
  have hps : ps = opP K := by
    refine List.ext_getElem (by simp [opP, hpl]) fun i h1 h2 => ?_
    have hi : i < K.length := by omega
    have he : (opE K)[i]? = some (entA (.v (.int .i64 (K[i]).1)) (.v (.bool true)) ((K[i]).2 : Nat)) := by
      rw [opE_get, List.getElem?_eq_getElem hi]; rfl
    have hv := hent i _ _ he (List.getElem?_eq_getElem h1)
    have k1 := hv.k
    have k2 := hv.v
    have k3 := hv.b
    simp only [entK, entV, entB, entA, V] at k1 k2 k3
    have e3 : (ps[i]).2.2 = (K[i]).2 := by
      have := k3.1
      simp only [List.cons.injEq, Value.int.injEq, true_and, and_true] at this
      omega
    simp only [opP, List.getElem_map]
    exact Prod.ext k1.1 (Prod.ext k2.1 e3)
  have hes : es = opR K := by
    apply Array.ext'
    rw [hlist, hps]; simp [opR]
  subst hes
  exact ⟨r, rfl, hb, hheap⟩
theorem opP_V (C : Ctx) : ∀ (K : List (Int × Nat)), Vs C (opE K) ((opP K).flatMap entCells)
  | [] => rfl
  | p :: K => by
    refine ⟨entCells ([.int .i64 p.1], [.bool true], p.2), _, rfl, ?_, opP_V C K⟩
    exact V_ent (C := C) (k := .v (.int .i64 p.1)) (v := .v (.bool true)) (b := .v (.int .i64 ((p.2 : Nat) : Int))) ⟨rfl, rfl⟩ ⟨rfl, rfl⟩ ⟨rfl, rfl⟩

theorem skip_calls {K : List (Int × Nat)} {ck : Nat} (ok : OpOk K ck) {n : Int} {l g g5 clk : Nat} {s : AS} {a : Act} {rem : List Nat} {Q : Exit → Act → World → Prop} {Kt : Act → World → Prop}
    (hm : Mid w0 Ws I0 G C0 37 clk (clk + 6) rem s a C) (h34 : s.1 34 = some (.oref l g true)) (hl : s.2 l = some (.ob g (.map false 1 false 1) (.node [.node (opE K), .v (.int .i64 (ck : Nat))])))
    (h5 : s.1 5 = some (.ptr 5 g5 0)) (m5 : s.2 5 = some (.var g5 (.v (.int .i64 n))))
    (hK2 : ∀ a' C', Mid w0 Ws I0 G C0 37 clk (clk + 6) rem (upd (upd s.1 35 none) 36 none, upd s.2 l (some (.ob g (.map false 1 false 1) (.node [.node (opE (K.filter fun q => !decide (q.1 < n))), .v (.int .i64 (ck : Nat))])))) a' C' → Kt a' C'.w) :
    wpOp Tryd.prog opsK Q 4 (wpOp Tryd.prog opsK Q 5 Kt) a C.w := by
  obtain ⟨y, e34, v34⟩ := hm.fr 34 _ h34
  obtain ⟨y5, e5, v5⟩ := hm.fr 5 _ h5
  have hmm : C.m l = some (.ob g (.map false 1 false 1) (.node [.node (opE K), .v (.int .i64 (ck : Nat))])) := by rw [hm.m]; exact hl
  obtain ⟨b, rfl, hblk, hheap⟩ := opE_raw hm.wr v34 hmm
  obtain ⟨p5, q5, _, r5⟩ := v5
  obtain rfl : y5 = .pointer (some p5) := by simpa using q5
  have hm5 : C.m 5 = some (.var g5 (.v (.int .i64 n))) := by rw [hm.m]; exact m5
  obtain ⟨B, hB, rfl⟩ := r5 _ hm5
  obtain ⟨b', cur, T, k1, k2, k3⟩ := hm.wr.locs 5 _ hm5
  obtain rfl : B = b' := by rw [hB] at k1; exact Option.some.inj k1
  simp only [V] at k3
  have hcur : cur = #[.int .i64 n] := Array.ext' k3.1
  have hBb : B ≠ b := by
    rintro rfl
    rw [k2] at hheap
    cases hheap
  have hBw := (hm.wr.own 5 _ B hm5 hB).1
  have hsize := hm.size
  obtain ⟨t1, p1, af1, h1⟩ := opsK_4
  obtain ⟨t2, p2, af2, at2, h2⟩ := opsK_5
  obtain ⟨fv, hfv⟩ : ∃ fv, fv = Value.func (.func 36) #[] #[.pointer (some ⟨B, 0, none⟩)] := ⟨_, rfl⟩
  unfold wpOp
  rw [h1]
  simp only
  rw [if_pos (by rfl)]
  left
  unfold Oper.wp
  have run1 : (execOp a.eval ⟨some 35, .makeFunc (.func 36) #[] #[.tmp 5], t1, p1, af1, none⟩).run Tryd.prog C.w = .ok (.value fv) C.w := by
    have e : a.eval (.tmp 5) = .pointer (some ⟨B, 0, none⟩) := by
      show a.tmps.getD 5 undef = _
      rw [Array.getD_eq_getD_getElem?, e5]; rfl
    simp [execOp, Instr.makeFunc, e, hfv]
  rw [run1, Oper.upon_value]
  rw [h2]
  simp only
  rw [if_pos (by rfl)]
  left
  have eg : ∀ args w, (callFunc 36 args).run Tryd.prog w = .ok (.enter 36 args) w := enters_of Tryd.func36 (by kernel_rfl) rfl
  have eg2 : ∀ args w, (callFunc 35 args).run Tryd.prog w = .ok (.enter 35 args) w := enters_of Tryd.func35 (by kernel_rfl) rfl
  have run2 : (execOp (a.put (some 35) fv).eval ⟨some 36, .call { callee := .value (.func 35), args := #[.tmp 34, .tmp 35], argTypes := at2 }, t2, p2, af2, none⟩).run Tryd.prog C.w
      = .ok (.enter 35 #[.map (some b), fv]) C.w := by
    have e34' : (a.put (some 35) fv).eval (.tmp 34) = .map (some b) := by
      show Array.getD _ 34 undef = _
      rw [Array.getD_eq_getD_getElem?]
      simp only [Act.put]
      rw [Array.getElem?_setIfInBounds_ne (by decide), e34]; rfl
    have e35' : (a.put (some 35) fv).eval (.tmp 35) = fv := by
      show Array.getD _ 35 undef = _
      rw [Array.getD_eq_getD_getElem?]
      simp only [Act.put]
      rw [Array.getElem?_setIfInBounds_self_of_lt (by omega)]; rfl
    have e : execOp (a.put (some 35) fv).eval ⟨some 36, .call { callee := .value (.func 35), args := #[.tmp 34, .tmp 35], argTypes := at2 }, t2, p2, af2, none⟩ = callFunc 35 (#[] ++ #[Operand.tmp 34, .tmp 35].map (a.put (some 35) fv).eval) := rfl
    rw [e, eg2]
    simp [e34', e35']
  rw [run2, Oper.upon_enter]
  have hcall := delF_calls K ck b 36 #[.pointer (some ⟨B, 0, none⟩)] (fun m => decide (m < n)) ok C.w eg hheap (fun W m hg => below_calls B n m W (by
    have := hg.block B hBw (by simpa using hBb)
    unfold World.cell?
    rw [show W.heap[(⟨B, 0, none⟩ : Addr).block]? = some (.cells cur T (0, 0)) from this.trans k2, hcur]
    rfl))
  rw [← hfv] at hcall
  refine Calls.mono hcall ?_
  rintro ex w' ⟨rfl, hheap', hgr⟩
  dsimp only
  obtain ⟨hle, hput⟩ := hm.wr.putO (c' := .ob g (.map false 1 false 1) (.node [.node (opE (K.filter fun q => !decide (q.1 < n))), .v (.int .i64 (ck : Nat))])) hmm hblk hheap (fun _ _ _ e => by cases e) hgr (by simp [Loc.same])
  have hwr := hput ⟨b, _, _, hblk, hheap', ⟨opP (K.filter fun q => !decide (q.1 < n)), by simp [opR], (fun p hp => by
    obtain ⟨q, _, rfl⟩ := List.mem_map.1 hp
    exact ⟨rfl, rfl⟩), rfl⟩, by
    simp only [V, Vs]
    exact ⟨_, [.int .i64 (ck : Nat)], rfl, opP_V _ _, [.int .i64 (ck : Nat)], [], rfl, ⟨rfl, rfl⟩, rfl⟩⟩
  refine hK2 _ _ ⟨hwr, by rw [← hm.m], ?_, hm.gr.mono hle, hm.le.trans hle, ?_, ?_, hm.fresh, hm.top, hm.one⟩
  · intro u x hx
    dsimp only at hx ⊢
    by_cases e11 : u = 36
    · subst e11; simp at hx
    · rw [upd_other _ _ e11] at hx
      by_cases e10 : u = 35
      · subst e10; simp at hx
      · rw [upd_other _ _ e10] at hx
        obtain ⟨z, h1, h2⟩ := (hm.fr.mono hle) u x hx
        refine ⟨z, ?_, h2⟩
        simp only [Act.put]
        rw [Array.getElem?_setIfInBounds_ne (fun h => e11 h.symm), Array.getElem?_setIfInBounds_ne (fun h => e10 h.symm)]
        exact h1
  · simp [Act.put, hsize]
  · simp [Act.put, hm.defers]
end
end Go.Proofs.YtphggannefpleaaDoor.WL

end
section
/-
  CHAPTER 06: Skip's contract.
-/
namespace Go.Proofs.YtphggannefpleaaDoor.WL
open Go
set_option maxHeartbeats 8000000
attribute [local irreducible] comp hb sha leafD pairD secD shutD wholeD pubD ofD leavesD

@[simp] def a_ring_Ring_Skip_r0 : List COper := [
  ⟨(some 4), .box, [.t 1], none⟩,
  ⟨(some 5), .box, [.t 2], none⟩,
  ⟨(some 6), .mov, [.c (.int .i64 0)], none⟩]
def c_ring_Ring_Skip_r0 : List COper := a_ring_Ring_Skip_r0
instance : Reg c_ring_Ring_Skip_r0 a_ring_Ring_Skip_r0 3 := ⟨rfl, rfl⟩
@[simp] def a_ring_Ring_Skip_r1 : List COper := [
  ⟨(some 10), .mov, [.t 0], none⟩,
  ⟨(some 11), .load true 33, [.t 4], none⟩,
  ⟨(some 12), .call fn_ring_Ring_entry, [.t 10, .t 11], none⟩,
  ⟨(some 9), .mov, [.t 12], none⟩,
  ⟨(some 13), .ext 0, [.t 9], none⟩,
  ⟨(some 14), .ext 1, [.t 9], none⟩,
  ⟨(some 7), .mov, [.t 13], none⟩,
  ⟨(some 8), .mov, [.t 14], none⟩]
def c_ring_Ring_Skip_r1 : List COper := a_ring_Ring_Skip_r1
instance : Reg c_ring_Ring_Skip_r1 a_ring_Ring_Skip_r1 8 := ⟨rfl, rfl⟩
@[simp] def a_ring_Ring_Skip_r2 : List COper := [
  ⟨(some 15), .mov, [.t 8], none⟩,
  ⟨(some 16), .bin .neq, [.t 15, .c (.int .i64 0)], none⟩]
def c_ring_Ring_Skip_r2 : List COper := a_ring_Ring_Skip_r2
instance : Reg c_ring_Ring_Skip_r2 a_ring_Ring_Skip_r2 2 := ⟨rfl, rfl⟩
@[simp] def a_ring_Ring_Skip_r3 : List COper := [
  ⟨(some 17), .mov, [.t 8], none⟩,
  ⟨(some 6), .mov, [.t 17], none⟩]
def c_ring_Ring_Skip_r3 : List COper := a_ring_Ring_Skip_r3
instance : Reg c_ring_Ring_Skip_r3 a_ring_Ring_Skip_r3 2 := ⟨rfl, rfl⟩
@[simp] def a_ring_Ring_Skip_r4 : List COper := [
  ⟨(some 18), .mov, [.t 7], none⟩,
  ⟨(some 19), .mov, [.t 7], none⟩,
  ⟨(some 20), .nilc, [.t 19], none⟩,
  ⟨(some 21), .faddr 1 1 false, [.t 20], none⟩,
  ⟨(some 22), .load false 1, [.t 21], none⟩,
  ⟨(some 23), .load false 1, [.t 5], none⟩,
  ⟨(some 24), .faddr 32 1 false, [.t 4], none⟩,
  ⟨(some 25), .load false 1, [.t 24], none⟩,
  ⟨(some 26), .bin .shl, [.c (.int .i64 1), .t 25], none⟩,
  ⟨(some 27), .mn, [.t 23, .t 26], none⟩,
  ⟨(some 28), .mx, [.t 22, .t 27], none⟩,
  ⟨(some 29), .nilc, [.t 18], none⟩,
  ⟨(some 30), .faddr 1 1 false, [.t 29], none⟩,
  ⟨none, .store false 1, [.t 30, .t 28], none⟩]
def c_ring_Ring_Skip_r4 : List COper := a_ring_Ring_Skip_r4
instance : Reg c_ring_Ring_Skip_r4 a_ring_Ring_Skip_r4 14 := ⟨rfl, rfl⟩
@[simp] def a_ring_Ring_Skip_r6 : List COper := [
  ⟨(some 6), .mov, [.c (.int .i64 0)], none⟩]
def c_ring_Ring_Skip_r6 : List COper := a_ring_Ring_Skip_r6
instance : Reg c_ring_Ring_Skip_r6 a_ring_Ring_Skip_r6 1 := ⟨rfl, rfl⟩
def kc0 : CCode := .region c_ring_Ring_Skip_r0 none [0, 4, 5]
def kc1 : CCode := .region c_ring_Ring_Skip_r1 none [4, 5, 7, 8]
def kc2 : CCode := .seq (.region c_ring_Ring_Skip_r2 none [4, 5, 7, 8, 16]) (.cond (.t 16) (.seq (.region c_ring_Ring_Skip_r3 none [6]) (.ret)) (.skip))
def kc3 : CCode := .region c_ring_Ring_Skip_r4 (some ([0, 0, 2, 6, 14, 0, 0, 64, 192, 480, 1022, 2047, 4095, 8191], [])) [5, 7]
def kc5 : CCode := .seq (.region c_ring_Ring_Skip_r6 none [6]) (.ret)
theorem kchk0 : chkCode Tryd.prog 37 (sqL kBody) kc0 = true := by kernel_rfl
theorem kchk1 : chkCode Tryd.prog 37 (sqL kb1) kc1 = true := by kernel_rfl
theorem kchk2 : chkCode Tryd.prog 37 (sqL kb2) kc2 = true := by kernel_rfl
theorem kchk3 : chkCode Tryd.prog 37 (sqL kb3) kc3 = true := by kernel_rfl
theorem kchk5 : chkCode Tryd.prog 37 kb5 kc5 = true := by kernel_rfl

/-- What Skip makes of a tree. -/
def skipN (t : One) (n : Int) : Int := if (t.nx : Int) < (if ((2 ^ t.h : Nat) : Int) < n then ((2 ^ t.h : Nat) : Int) else n) then (if ((2 ^ t.h : Nat) : Int) < n then ((2 ^ t.h : Nat) : Int) else n) else (t.nx : Int)
def skipT (t : One) (n : Int) : One := { t with nx := (skipN t n).toNat, K := t.K.filter fun p => !decide (p.1 < n) }
theorem skipN_nat (t : One) (n : Int) : ((skipN t n).toNat : Int) = skipN t n := by
  unfold skipN
  split
  · split <;> omega
  · omega

theorem wpOps_fk {P : Program} {ops : Array Oper} {Q : Exit → Act → World → Prop} (i : Nat) (rest : List Nat) : wpOps P ops Q (i :: rest) = wpOp P ops Q i (wpOps P ops Q rest) := by
  funext a w
  exact wpOps_cons i rest a w
section
variable {w0 : World} {Ws I0 : Nat → Prop} {C0 : Ctx}
end
end Go.Proofs.YtphggannefpleaaDoor.WL

end
