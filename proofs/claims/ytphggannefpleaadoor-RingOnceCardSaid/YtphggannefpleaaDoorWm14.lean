/- Texts put together: L06e, T06, T02. -/
import Derived.Test.YtphggannefpleaaDoorWm13
import Derived.Test.YtphggannefpleaaDoorRows
import Derived.ProofKit
import Derived.LaidMore
import Derived.Lib.LaidTab
section
/-
  CHAPTER 06: the walk of RingOnce.
-/
namespace Go.Proofs.YtphggannefpleaaDoor.WL
open Go
set_option maxHeartbeats 4000000
attribute [local irreducible] comp hb sha leafD pairD secD shutD wholeD pubD ofD leavesD nE nO rowsU rgL refU Dg.one

theorem rg_look1 (c : Nat) (ts : List Tr) (lk : Nat) : look (rgL c ts lk) 1000 = some (.var c (.node [.oref 1001 c true])) := by unfold rgL; rfl
theorem upT_ids' {ts : List Tr} (hf : Fine ts) {x : Tr} (hx : x ∈ ts) {t : One} : ∀ y ∈ upT ts x.id t, ∃ z ∈ ts, z.id = y.id := fun y hy => by
  rcases (upT_mem hf.ids hx).1 hy with rfl | ⟨h, _⟩
  · exact ⟨x, hx, rfl⟩
  · exact ⟨y, h, rfl⟩
theorem okL_four {M : List (Nat × Loc)} {a b c d : AV} (h1 : okA M a = true) (h2 : okA M b = true) (h3 : okA M c = true) (h4 : okA M d = true) : okL M [a, b, c, d] = true := by simp only [okL, h1, h2, h3, h4, Bool.and_self]
theorem ringOnce_walk (l : List Cl) (hl : l.length < 4611686018427387904) : Meets Tryd.prog Gt fn_l06_RingOnce [.sl 36 (clsA l)] [] true (.v (.bool true)) [] := by
  refine meets_of_go mix k_l06_RingOnce ⟨by simp, by simp, by simp⟩ ?_
  have hlen := clsA_len l
  have hcl := clsA_closed l
  have hget := clsA_get l
  have m0 := great_meets l hl
  have m1 := rnew_meets
  have hrn := refU_nil
  have hwn := rowsU_nil
  have hgn := rgL_nil
  have hgr : greatC l = false → l.length ≤ 30 ∧ ∀ c ∈ l, c.bad = false := fun h => by
    unfold greatC at h
    rw [Bool.or_eq_false_iff] at h
    refine ⟨by simpa using h.2, fun c hc => ?_⟩
    have := h.1
    rw [List.any_eq_false] at this
    simpa using this c hc
  have hmk : ∀ (m : Nat → Option Loc) (g d : Nat), step (.mk 1 24 (.v (.slice none 0 0))) [.v (.int .i64 40), .v (.int .i64 40)] m g d = some (.row d 1 g 0 40, [(d, some (.rows g 1 (rep 40 (.v (.slice none 0 0)))))]) := fun m g d => step_mk 1 24 _ _ _ 40 (by decide)
  generalize clsA l = cs at *
  simp
  refine call_intro alive6_meets ?_ ?_
  · simp
  simp
  refine call_intro m0 ?_ ?_
  · simp [hcl]
  simp
  cases hg : greatC l
  case true =>
    simp
    refine post_end (.inr rfl) ?_
    simp
  obtain ⟨hl30, hbad⟩ := hgr hg
  simp
  refine call_intro m1 ?_ ?_
  · simp [rg0]
  simp [rg0, hlen, hmk]
  refine go_up l.length (fun i (s : Rst) => Inv s.ts s.lk s.L s.U i) (stO cs l.length) ⟨[], 0, [], fun _ => [], 15⟩ 16 ?_ inv_zero ?_ ?_
  · unfold stO lawM
    simp only [hrn, hwn, hgn]
    exact Weak.re (by simp [keysL, rep, hcl])
  · rintro i ⟨ts, lk, L, U, g⟩ c hi hinv
    dsimp only at hinv
    obtain ⟨x, hx⟩ : ∃ x, l[i]? = some x := ⟨l[i], List.getElem?_eq_getElem hi⟩
    have hg := hget i
    rw [hx, Option.map_some] at hg
    have hb := hbad x (List.mem_of_getElem? hx)
    have hw : IntKind.i64.wrap ((i : Int) + 1) = ((i + 1 : Nat) : Int) := w64_succ (by omega)
    have hii : (i : Int) < (l.length : Nat) := by omega
    have mk := key_meets L x.key
    have hkl := keysL_closed L
    have hkn := keysL_len L
    have hkt : (keysL L).take L.length = keysL L := List.take_of_length_le (by omega)
    obtain ⟨⟨root, h⟩, hko⟩ : ∃ k, keyOf L x.key = k := ⟨_, rfl⟩
    rw [hko] at mk
    dsimp only at mk
    have o1 := one_set x.seed
    have hfin := hinv.fine
    have hid : ∀ y ∈ ts, ∃ z ∈ ts, z.id = y.id := fun y hy => ⟨y, hy, rfl⟩
    have hargs : okL (rgL 0 ts lk) [.ptr 1000 0 0, keyA root h] = true := okL_two (ok_ptr (x := .node [.oref 1001 0 true]) (rg_look1 0 ts lk)) (ok_node (okL_two (ok_dv _ _) (ok_v _ _)))
    unfold stO lawM
    dsimp only
    simp [hi, hii, hg, Cl.av]
    refine call_intro mk ?_ ?_
    · simp [hkl, hkn, hkt]
    simp [hkl, hkn, hkt, keyA]
    by_cases k0 : x.kind = 0
    · have hargs0 : okL (rgL 0 ts lk) [.ptr 1000 0 0, dv (Dg.one x.seed), .v (.int .i64 x.n)] = true := okL_three (ok_ptr (x := .node [.oref 1001 0 true]) (rg_look1 0 ts lk)) (ok_dv _ _) (ok_v _ _)
      by_cases hbd : x.n < 0 ∨ 6 < x.n
      · have ma := radd_bad hfin lk (Dg.one x.seed) x.n hbd
        simp [k0, o1]
        refine call_r (X := [(4, _), (7, _), (8, _), (1999, _)]) (c := g) hfin hfin ma hid hargs0 rfl (ok_res2 (ok_node (okL_two (ok_dv _ _) (ok_v _ _))) (ok_v _ _)) (by simp [names]) rowsU_low' fun z => ?_
        simp [resRe, reL, reA, keyA, hw]
        exact ⟨⟨ts, lk, L, U, g⟩, _, end_w (X := [(4, _), (7, _), (8, _), (9, _)]) [(4, .rows g 33 (keysL L))] hinv.fine (by simp [look]) (by simp [names]) (fun j => .inl rfl) (Nat.le_refl _), hinv.succ⟩
      · obtain ⟨n, hn⟩ : ∃ n : Nat, x.n = n := ⟨x.n.toNat, by omega⟩
        have hn2 : n ≤ 2 := by
          simp [Cl.bad, k0] at hb
          omega
        by_cases hT : ∃ t ∈ ts, t.key = ((oneN (Dg.one x.seed) n).root, n)
        · obtain ⟨t, ht, htk⟩ := hT
          have ma := radd_dup hfin lk ht (Dg.one x.seed) n (by omega) (congrArg Prod.fst htk) (congrArg Prod.snd htk)
          simp [k0, o1]
          refine call_r (X := [(4, _), (7, _), (8, _), (1999, _)]) (c := g) hfin hfin ma hid hargs0 (by rw [hn]; rfl) (ok_res2 (ok_node (okL_two (ok_dv _ _) (ok_v _ _))) (ok_v _ _)) (by simp [names]) rowsU_low' fun z => ?_
          simp [resRe, reL, reA, keyA, hw]
          exact ⟨⟨ts, lk, L, U, g⟩, _, end_w (X := [(4, _), (7, _), (8, _), (9, _)]) [(4, .rows g 33 (keysL L))] hinv.fine (by simp [look]) (by simp [names]) (fun j => .inl rfl) (Nat.le_refl _), hinv.succ⟩
        · have hT' : ∀ t ∈ ts, t.key ≠ ((oneN (Dg.one x.seed) n).root, n) := fun t ht e => hT ⟨t, ht, e⟩
          have ma := radd_tr hfin lk (by have := hinv.lk; omega) (Dg.one x.seed) n (by omega) hT'
          have hnx := inv_add hinv (Dg.one x.seed) n hn2 hT'
          simp [k0, o1]
          refine call_add (X := [(4, _), (7, _), (8, _), (1999, _)]) (c := g) hfin ma hargs0 (by rw [hn]; rfl) (by simp) (by omega) (by simp [names]) rowsU_low fun z => ?_
          have hfb : fitsB (L.length + 1) 40 := fits (by have := hinv.len; omega) (by have := hinv.len; omega)
          have hks : keysL L ++ [AV.node [dv (oneN (Dg.one x.seed) n).root, AV.v (.int .i64 (n : Nat))]] = keysL (L ++ [((oneN (Dg.one x.seed) n).root, n)]) := by simp [keysL, keyA]
          have hkl' := keysL_closed (L ++ [((oneN (Dg.one x.seed) n).root, n)])
          simp [keyA, hw, hkn, hfb, hks]
          obtain ⟨oa1, oa2⟩ := own_A (X := [(4, .rows (c + 1 + 4 + 6 + 2 + 2 + 13 + 2 + 3) 33 (keysL (L ++ [((oneN (Dg.one x.seed) n).root, n)]))), (7, .var (c + 1 + 2) (.node [.v (.int .i64 0), bv x.seed, .v (.int .i64 x.key), .v (.int .i64 x.n), dv x.d])), (8, .var (c + 1 + 4 + 4) (.node [dv root, .v (.int .i64 (h : Nat))])),
            (9, .var (c + 1 + 4 + 6 + 2 + 2 + 10) (.node [dv (oneN (Dg.one x.seed) n).root, .v (.int .i64 (n : Nat))])), (53, .rows (c + 1 + 4 + 6 + 2 + 2 + 13 + 2 + 2) 33 [.node [dv (oneN (Dg.one x.seed) n).root, .v (.int .i64 (n : Nat))]]), (1999, .rows g 1 (refU g U))])
            (c := g) (g := c + 1 + 4 + 6 + 2 + 2 + 6) (lk := lk) (p := 1461002) (q := 1461003) (t := oneN (Dg.one x.seed) n) (U := U) hfin (by omega) (by omega) (by omega) (by simp [names])
          simp only [List.cons_append, List.nil_append] at oa1 oa2
          have hL' : (L ++ [((oneN (Dg.one x.seed) n).root, n)]).length = L.length + 1 := by simp
          generalize (oneN (Dg.one x.seed) n) = t at *
          generalize L ++ [(t.root, n)] = L' at *
          generalize rgA g (c + 1 + 4 + 6 + 2 + 2 + 6) (c + 1 + 4 + 6 + 2 + 2 + 6) 1461002 1461003 ts lk t ++ rowsU g U = T at *
          refine ⟨⟨_, lk + 1, L', U, _⟩, _, weak_r2 (i := 40) (r := 2040) (g := g) (c1 := g) (p := 1461002) (q := 1461003) (X := [(4, .rows _ 33 (keysL L'))]) (SX := [4]) hfin hnx.fine [(4, some (4, c + 1 + 4 + 6 + 2 + 2 + 13 + 2 + 3))] (.inr rfl) (.inr (by omega)) (fun LT t1 t2 => ?_) (by simp) (by simp [names]) (by simp [names]) (by simp) (by simp) (by omega) (by omega) (by omega) oa1 (by rw [← refU_eq]; rfl) (fun j hj hu => ?_), hnx⟩
          · simp [t1, t2, hcl, hkl']
            omega
          · rw [rj40 hj, gj40 hj]
            exact oa2 j hj hu
    by_cases k1 : x.kind = 1
    · by_cases hT : ∃ t ∈ ts, t.key = (root, h)
      · obtain ⟨t, ht, htk⟩ := hT
        obtain ⟨rfl, rfl⟩ := Prod.mk.inj htk
        have gd := hinv.good t ht
        have hh6 : t.t.h ≤ 6 := by have := gd.h; omega
        have hq4 : 2 ^ t.t.h ≤ 4 := Nat.le_trans (Nat.pow_le_pow_right (by omega) gd.h) (by decide)
        by_cases hsp : t.t.nx < 2 ^ t.t.h
        · have ma := take_tr hfin lk ht hh6 hsp (fun p hp e => by have := (gd.low p hp).2; omega) (by have := gd.ck; have := gd.nx; omega)
          have hf' := upT_fine (t := takeT t.t) hfin ht ⟨rfl, rfl⟩
          simp [k1]
          refine call_r (X := [(4, _), (7, _), (8, _), (1999, _)]) (c := g) hfin hf' ma (upT_ids' hfin ht) hargs rfl (ok_res2 (ok_v _ _) (ok_v _ _)) (by simp [names]) rowsU_low' fun z => ?_
          simp [resRe, reL, reA, hw]
          exact ⟨⟨_, lk, L, U, g⟩, _, end_w (X := [(4, _), (7, _), (8, _)]) [(4, .rows g 33 (keysL L))] hf' (by simp [look]) (by simp [names]) (fun j => .inl rfl) (Nat.le_refl _), inv_take hinv ht hsp⟩
        · have ma := take_over hfin lk ht hh6 (by omega)
          simp [k1]
          refine call_r (X := [(4, _), (7, _), (8, _), (1999, _)]) (c := g) hfin hfin ma hid hargs rfl (ok_res2 (ok_v _ _) (ok_v _ _)) (by simp [names]) rowsU_low' fun z => ?_
          simp [resRe, reL, reA, hw]
          exact ⟨⟨ts, lk, L, U, g⟩, _, end_w (X := [(4, _), (7, _), (8, _)]) [(4, .rows g 33 (keysL L))] hinv.fine (by simp [look]) (by simp [names]) (fun j => .inl rfl) (Nat.le_refl _), hinv.succ⟩
      · have hT' : ∀ t ∈ ts, t.key ≠ (root, h) := fun t ht e => hT ⟨t, ht, e⟩
        have ma := take_no hfin lk hT'
        simp [k1]
        refine call_r (X := [(4, _), (7, _), (8, _), (1999, _)]) (c := g) hfin hfin ma hid hargs rfl (ok_res2 (ok_v _ _) (ok_v _ _)) (by simp [names]) rowsU_low' fun z => ?_
        simp [resRe, reL, reA, hw]
        exact ⟨⟨ts, lk, L, U, g⟩, _, end_w (X := [(4, _), (7, _), (8, _)]) [(4, .rows g 33 (keysL L))] hinv.fine (by simp [look]) (by simp [names]) (fun j => .inl rfl) (Nat.le_refl _), hinv.succ⟩
    by_cases k2 : x.kind = 2
    · have hargs2 : okL (rgL 0 ts lk) [.ptr 1000 0 0, keyA root h, .v (.int .i64 x.n), dv x.d] = true := okL_four (ok_ptr (x := .node [.oref 1001 0 true]) (rg_look1 0 ts lk)) (ok_node (okL_two (ok_dv _ _) (ok_v _ _))) (ok_v _ _) (ok_dv _ _)
      by_cases hT : ∃ t ∈ ts, t.key = (root, h)
      · obtain ⟨t, ht, htk⟩ := hT
        obtain ⟨rfl, rfl⟩ := Prod.mk.inj htk
        have gd := hinv.good t ht
        by_cases hop : ∃ p ∈ t.t.K, p.1 = x.n
        · obtain ⟨n, hn⟩ : ∃ n : Nat, x.n = n := by
            obtain ⟨p, hp, e⟩ := hop
            have := gd.low p hp
            exact ⟨x.n.toNat, by omega⟩
          rw [hn] at hop hargs2
          have hnlt : n < 2 ^ t.t.h := by
            obtain ⟨p, hp, e⟩ := hop
            have := gd.low p hp
            have := gd.nx
            omega
          have hll : t.t.ls.length = 2 ^ t.t.h := by rw [gd.ls, leavesD_length]
          have hq4 : 2 ^ t.t.h ≤ 4 := Nat.le_trans (Nat.pow_le_pow_right (by omega) gd.h) (by decide)
          have ma := sign_tr hfin lk ht n x.d (by omega) (by omega) hop gd.ok.keys
          have hchk : checkK t.t.root (t.t.h : Int) x.d (signK t.t.seed t.t.ls n x.d 32) = true := by
            rw [gd.root, gd.ls]
            exact sign_checks t.t.seed t.t.h n x.d (by have := gd.h; omega) hnlt
          have mc := kcheck_meets t.t.root (t.t.h : Int) x.d (signK t.t.seed t.t.ls n x.d 32) (by have := gd.h; omega) (by simp only [signK]; omega)
          rw [hchk] at mc
          have hleaf : (signK t.t.seed t.t.ls n x.d 32).leaf = (n : Int) := rfl
          generalize signK t.t.seed t.t.ls n x.d 32 = sg at *
          obtain ⟨leaf, op, sh, pth⟩ := sg
          dsimp only at hleaf
          subst hleaf
          have hf' := upT_fine (t := signT t.t n) hfin ht ⟨rfl, rfl⟩
          have hnx := inv_sign hinv ht n hop
          have hlen30 := hinv.len
          have hnew : ∀ j, L[j]? = some t.key → ∀ q ∈ U j, q ≠ (n : Int) := fun j hj q hq e => by
            obtain ⟨p, hp, ep⟩ := hop
            exact (hinv.seen j _ hj q hq t ht rfl).2 p hp (ep.trans e.symm)
          simp [k2, hn]
          refine call_r (X := [(4, _), (7, _), (8, _), (1999, _)]) (c := g) hfin hf' ma (upT_ids' hfin ht) hargs2 (by rfl) (ok_res2 (ok_sig _) (ok_v _ _)) (by simp [names]) rowsU_low' fun z => ?_
          simp [resRe, reL, reA, hw, hn, Sig.avS]
          refine call_intro mc ?_ ?_
          · simp [Sig.avS]
          simp [Sig.avS, hn, hkn]
          have hhd : ∀ y : Dg × Nat, y = t.key → decide (y.1 = t.t.root ∧ (y.2 : Int) = (t.t.h : Int)) = true := fun y he => by rw [he]; simp [Tr.key]
          have hhn : ∀ y : Dg × Nat, y ≠ t.key → decide (y.1 = t.t.root ∧ (y.2 : Int) = (t.t.h : Int)) = false := fun y he => by
            rw [decide_eq_false_iff_not]
            rintro ⟨e1, e2⟩
            exact he (Prod.ext e1 (by simp only [Tr.key]; omega))
          clear ma mc hargs2 hargs mk m0 m1 hchk
          refine go_up L.length (fun _ (_ : Nat × Nat × Nat) => True) (fun j a cc => ⟨[(3, .ptr 1000 a.1 0), (4, .row 4 33 a.1 0 L.length), (5, .row 1999 1 a.1 0 40), (8, .ptr 8 a.2.1 0), (11, .ptr 11 a.2.2 0), (25, .sl 36 cs), (26, .v (.int .i64 (l.length : Nat))), (27, .v (.int .i64 (i : Nat))), (87, .row 4 33 a.1 0 L.length), (88, .v (.int .i64 (L.length : Nat))), (89, .v (.int .i64 (j : Nat)))],
            lawM [(4, .rows a.1 33 (keysL L)), (8, .var a.2.1 (.node [dv t.t.root, .v (.int .i64 (t.t.h : Nat))])), (11, .var a.2.2 (.node [.v (.int .i64 (n : Nat)), .node [.sl 32 (Dgs op), .sl 32 (Dgs sh)], .sl 32 (Dgs pth)]))] a.1 (rgL a.1 (upT ts t.id (signT t.t n)) lk) (addU U L t.key n j), cc⟩) (g, c + 1 + 4 + 4, c + 1 + 4 + 6 + 2 + 2 + 2 + 2 + 10) (c + 1000) ?_ trivial ?_ ?_
          · dsimp only
            rw [addU_zero]
            exact end_w (X := [(4, _), (7, _), (8, _), (11, _)]) _ hf' (by simp [look]) (by simp [names]) (fun j => .inl rfl) (by omega)
          · rintro j ⟨q, s8, s11⟩ cc hj _
            obtain ⟨y, hy⟩ : ∃ y, L[j]? = some y := ⟨L[j], List.getElem?_eq_getElem hj⟩
            have hgy := keysL_get L j
            rw [hy, Option.map_some] at hgy
            have hjj : (j : Int) < (L.length : Nat) := by omega
            have hwj : IntKind.i64.wrap ((j : Int) + 1) = ((j + 1 : Nat) : Int) := w64_succ (by omega)
            have hcm := cmp_key y.1 t.t.root (y.2 : Nat) (t.t.h : Nat)
            unfold keyA at hgy
            unfold lawM
            dsimp only
            by_cases he : y = t.key
            · rw [hhd y he] at hcm
              have hyk : L[j]? = some t.key := by rw [hy, he]
              obtain ⟨hq1, hq2⟩ := addU_eq (U := U) (L := L) (k := t.key) (n := (n : Int)) (j := j) hyk
              have hj40 : j < 40 := by omega
              have hj40i : (j : Int) < 40 := by omega
              have hel := refU_get (c := q) (U := addU U L t.key n j) hj40
              have hat := addU_at U L t.key n j
              rw [hat] at hel
              have hnj := hnew j hyk
              by_cases hu : U j = []
              · rw [if_pos hu] at hel
                simp [hjj, hkn, hgy, hcm, hwj, hj40i, hel, nilS]
                refine go_up 0 (fun _ (_ : Unit) => True) (fun m _ c4 => ⟨[(3, .ptr 1000 q 0), (4, .row 4 33 q 0 L.length), (5, .row 1999 1 q 0 40), (8, .ptr 8 s8 0), (11, .ptr 11 s11 0), (13, .v (.int .i64 (j : Nat))), (25, .sl 36 cs), (26, .v (.int .i64 (l.length : Nat))), (27, .v (.int .i64 (i : Nat))), (87, .row 4 33 q 0 L.length), (88, .v (.int .i64 (L.length : Nat))), (89, .v (.int .i64 (j : Nat))), (100, .v (.slice none 0 0)), (101, .v (.int .i64 ((0 : Nat) : Nat))), (102, .v (.int .i64 (m : Nat)))],
                  lawM [(4, .rows q 33 (keysL L)), (8, .var s8 (.node [dv t.t.root, .v (.int .i64 (t.t.h : Nat))])), (11, .var s11 (.node [.v (.int .i64 (n : Nat)), .node [.sl 32 (Dgs op), .sl 32 (Dgs sh)], .sl 32 (Dgs pth)]))] q (rgL q (upT ts t.id (signT t.t n)) lk) (addU U L t.key n j), c4⟩) () (cc + 1000) ?_ trivial ?_ ?_
                · exact end_w (X := [(4, _), (8, _), (11, _), (14, _)]) [(4, .rows q 33 (keysL L)), (8, .var s8 (.node [dv t.t.root, .v (.int .i64 (t.t.h : Nat))])), (11, .var s11 (.node [.v (.int .i64 (n : Nat)), .node [.sl 32 (Dgs op), .sl 32 (Dgs sh)], .sl 32 (Dgs pth)]))] hf' (by simp [look]) (by simp [names]) (fun j => .inl rfl) (by omega)
                · intro m _ _ hm
                  exact absurd hm (Nat.not_lt_zero _)
                · intro _ c4 _
                  have hfb : fitsB 1 8 := by decide
                  unfold lawM
                  simp [hj40i, hel, nilS, hfb, hwj]
                  have hset := refU_set (c := q) (U := addU U L t.key n j) (U' := addU U L t.key n (j + 1)) (r := 120) (g := c4 + 1 + 9) (n := 1) hj40 (by rw [hq1]; simp) (by rw [hq1, hu]; rfl) hq2
                  refine ⟨(_, _, _), _, weak_r1 (i := j) (r := 120) (g := c4 + 1 + 9) (c1 := q) (X := [(4, .rows (c4 + 1 + 12 + 2) 33 (keysL L)), (8, .var (c4 + 1 + 12 + 2) (.node [dv t.t.root, .v (.int .i64 (t.t.h : Nat))])), (11, .var (c4 + 1 + 12 + 2) (.node [.v (.int .i64 (n : Nat)), .node [.sl 32 (Dgs op), .sl 32 (Dgs sh)], .sl 32 (Dgs pth)]))]) (SX := [4, 8, 11]) hf' [(4, some (4, q)), (8, some (8, s8)), (11, some (11, s11))] (.inl rfl) (.inl rfl) (fun LT t1 t2 => by simp [t1, t2, hcl, hkl]) (by simp) (by simp [names]) (by simp [names]) (by simp) (by simp)
                    (own_T (X := [(4, _), (8, _), (11, _), (119, _), (120, _), (1999, _)]) hf' (by simp [names])) (by rw [← hset]; rfl) (fun k hk huk => ?_), trivial⟩
                  by_cases e : k = j
                  · subst e
                    simp [rjf, gjf, hq1, hu, ivs]
                  · rw [show rjf j 120 k = 2000 + k from if_neg e, show gjf j (c4 + 1 + 9) q k = q from if_neg e, hq2 k e]
                    exact own_R (X := [(4, _), (8, _), (11, _), (119, _), (120, _), (1999, _)]) (by simp [names]) k hk (by rw [← hq2 k e]; exact huk)
              · rw [if_neg hu] at hel
                have hrow := own_R (X := []) (c := q) (lk := lk) (ts := upT ts t.id (signT t.t n)) (U := addU U L t.key n j) (by simp [names]) j hj40 (by rw [hat]; exact hu)
                rw [List.nil_append, hat] at hrow
                have hil := iv_len (U j)
                have hbg := hinv.big j
                simp [hjj, hkn, hgy, hcm, hwj, hj40i, hel]
                refine go_up (U j).length (fun _ (_ : Unit) => True) (fun m _ c4 => ⟨[(3, .ptr 1000 q 0), (4, .row 4 33 q 0 L.length), (5, .row 1999 1 q 0 40), (8, .ptr 8 s8 0), (11, .ptr 11 s11 0), (13, .v (.int .i64 (j : Nat))), (25, .sl 36 cs), (26, .v (.int .i64 (l.length : Nat))), (27, .v (.int .i64 (i : Nat))), (87, .row 4 33 q 0 L.length), (88, .v (.int .i64 (L.length : Nat))), (89, .v (.int .i64 (j : Nat))), (100, .row (2000 + j) 1 q 0 (U j).length), (101, .v (.int .i64 ((U j).length : Nat))), (102, .v (.int .i64 (m : Nat)))],
                  lawM [(4, .rows q 33 (keysL L)), (8, .var s8 (.node [dv t.t.root, .v (.int .i64 (t.t.h : Nat))])), (11, .var s11 (.node [.v (.int .i64 (n : Nat)), .node [.sl 32 (Dgs op), .sl 32 (Dgs sh)], .sl 32 (Dgs pth)]))] q (rgL q (upT ts t.id (signT t.t n)) lk) (addU U L t.key n j), c4⟩) () (cc + 1000) ?_ trivial ?_ ?_
                · exact end_w (X := [(4, _), (8, _), (11, _), (14, _)]) [(4, .rows q 33 (keysL L)), (8, .var s8 (.node [dv t.t.root, .v (.int .i64 (t.t.h : Nat))])), (11, .var s11 (.node [.v (.int .i64 (n : Nat)), .node [.sl 32 (Dgs op), .sl 32 (Dgs sh)], .sl 32 (Dgs pth)]))] hf' (by simp [look]) (by simp [names]) (fun j => .inl rfl) (by omega)
                · intro m _ c4 hm _
                  obtain ⟨w, hwm⟩ : ∃ w, (U j)[m]? = some w := ⟨(U j)[m], List.getElem?_eq_getElem hm⟩
                  have hmm : (m : Int) < ((U j).length : Nat) := by omega
                  have hwk : IntKind.i64.wrap ((m : Int) + 1) = ((m + 1 : Nat) : Int) := w64_succ (by omega)
                  have hne : w ≠ (n : Int) := hnj w (List.mem_of_getElem? hwm)
                  have him : (ivs (U j))[m]? = some (.v (.int .i64 w)) := by unfold ivs; rw [List.getElem?_map, hwm]; rfl
                  unfold lawM
                  simp [hmm, hrow, hil, him, hne, hwk, hu_eq, hu_eq', hu_lt]
                  exact ⟨(), _, end_w (X := [(4, _), (8, _), (11, _)]) [(4, .rows q 33 (keysL L)), (8, .var s8 (.node [dv t.t.root, .v (.int .i64 (t.t.h : Nat))])), (11, .var s11 (.node [.v (.int .i64 (n : Nat)), .node [.sl 32 (Dgs op), .sl 32 (Dgs sh)], .sl 32 (Dgs pth)]))] hf' (by simp [look]) (by simp [names]) (fun j => .inl rfl) (Nat.le_refl _), trivial⟩
                · intro _ c4 _
                  have hfb : fitsB ((U j).length + 1) 8 := fits (by omega) (by omega)
                  unfold lawM
                  simp [hj40i, hel, hrow, hil, hfb, hwj, hu_eq, hu_eq', hu_lt]
                  have hset := refU_set (c := q) (U := addU U L t.key n j) (U' := addU U L t.key n (j + 1)) (r := 2000 + j) (g := c4 + 1 + 9) (n := (U j).length + 1) hj40 (by rw [hq1]; simp) (by rw [hq1]; simp) hq2
                  have hi1 : ivs (U j) ++ [.v (.int .i64 (n : Nat))] = ivs (addU U L t.key n (j + 1) j) := by rw [hq1]; simp [ivs]
                  rw [hi1]
                  obtain ⟨ow1, ow2, ow3⟩ := own_I (X := [(4, .rows q 33 (keysL L)), (8, .var s8 (.node [dv t.t.root, .v (.int .i64 (t.t.h : Nat))])), (11, .var s11 (.node [.v (.int .i64 (n : Nat)), .node [.sl 32 (Dgs op), .sl 32 (Dgs sh)], .sl 32 (Dgs pth)])), (119, .rows (c4 + 1 + 8) 1 [.v (.int .i64 (n : Nat))]), (1999, .rows q 1 ((refU q (addU U L t.key n j)).set j (.row (2000 + j) 1 (c4 + 1 + 9) 0 ((U j).length + 1))))])
                    (c := q) (lk := lk) (i := j) (U := addU U L t.key n j) (v := .rows (c4 + 1 + 9) 1 (ivs (addU U L t.key n (j + 1) j))) hf' hj40 (by simp [names])
                  simp only [List.cons_append, List.nil_append] at ow1 ow2 ow3
                  refine ⟨(_, _, _), _, weak_r1 (i := j) (r := 2000 + j) (g := c4 + 1 + 9) (c1 := q) (X := [(4, .rows (c4 + 1 + 12 + 2) 33 (keysL L)), (8, .var (c4 + 1 + 12 + 2) (.node [dv t.t.root, .v (.int .i64 (t.t.h : Nat))])), (11, .var (c4 + 1 + 12 + 2) (.node [.v (.int .i64 (n : Nat)), .node [.sl 32 (Dgs op), .sl 32 (Dgs sh)], .sl 32 (Dgs pth)]))]) (SX := [4, 8, 11]) hf' [(4, some (4, q)), (8, some (8, s8)), (11, some (11, s11))] (.inr rfl) (.inr (by omega)) (fun LT t1 t2 => by simp [t1, t2, hcl, hkl]) (by simp) (by simp [names]) (by simp [names]) (by simp) (by simp)
                    ow1 (by rw [← hset]; rfl) (fun k hk huk => ?_), trivial⟩
                  by_cases e : k = j
                  · subst e
                    rw [show rjf k (2000 + k) k = 2000 + k from if_pos rfl, show gjf k (c4 + 1 + 9) q k = c4 + 1 + 9 from if_pos rfl]
                    exact ow2
                  · rw [show rjf j (2000 + j) k = 2000 + k from if_neg e, show gjf j (c4 + 1 + 9) q k = q from if_neg e, hq2 k e]
                    exact ow3 k hk e (by rw [← hq2 k e]; exact huk)
            · rw [hhn y he] at hcm
              have hne := addU_ne (U := U) (L := L) (k := t.key) (n := (n : Int)) (j := j) (by rw [hy]; exact fun e => he (Option.some.inj e))
              simp [hjj, hkn, hgy, hcm, hwj]
              rw [← hne]
              exact ⟨(q, s8, s11), _, end_w (X := [(4, _), (8, _), (11, _), (14, _)]) [(4, .rows q 33 (keysL L)), (8, .var s8 (.node [dv t.t.root, .v (.int .i64 (t.t.h : Nat))])), (11, .var s11 (.node [.v (.int .i64 (n : Nat)), .node [.sl 32 (Dgs op), .sl 32 (Dgs sh)], .sl 32 (Dgs pth)]))] hf' (by simp [look]) (by simp [names]) (fun j => .inl rfl) (Nat.le_refl _), trivial⟩
          · rintro ⟨q, s8, s11⟩ cc _
            unfold lawM
            simp [hw]
            exact ⟨⟨_, lk, L, _, q⟩, _, end_w (X := [(4, _), (8, _), (11, _)]) [(4, .rows q 33 (keysL L))] hf' (by simp [look]) (by simp [names]) (fun j => .inl rfl) (Nat.le_refl _), hnx⟩
        · have ma := sign_shut hfin lk ht x.n x.d (fun p hp e => hop ⟨p, hp, e⟩)
          simp [k2]
          refine call_r (X := [(4, _), (7, _), (8, _), (1999, _)]) (c := g) hfin hfin ma hid hargs2 rfl (ok_res2 (ok_sig0 _) (ok_v _ _)) (by simp [names]) rowsU_low' fun z => ?_
          simp [resRe, reL, reA, hw, sig0]
          exact ⟨⟨ts, lk, L, U, g⟩, _, end_w (X := [(4, _), (7, _), (8, _), (11, _)]) [(4, .rows g 33 (keysL L))] hinv.fine (by simp [look]) (by simp [names]) (fun j => .inl rfl) (Nat.le_refl _), hinv.succ⟩
      · have hT' : ∀ t ∈ ts, t.key ≠ (root, h) := fun t ht e => hT ⟨t, ht, e⟩
        have ma := sign_no hfin lk hT' x.n x.d
        simp [k2]
        refine call_r (X := [(4, _), (7, _), (8, _), (1999, _)]) (c := g) hfin hfin ma hid hargs2 rfl (ok_res2 (ok_sig0 _) (ok_v _ _)) (by simp [names]) rowsU_low' fun z => ?_
        simp [resRe, reL, reA, hw, sig0]
        exact ⟨⟨ts, lk, L, U, g⟩, _, end_w (X := [(4, _), (7, _), (8, _), (11, _)]) [(4, .rows g 33 (keysL L))] hinv.fine (by simp [look]) (by simp [names]) (fun j => .inl rfl) (Nat.le_refl _), hinv.succ⟩
    by_cases k3 : x.kind = 3
    · have hargs3 : okL (rgL 0 ts lk) [.ptr 1000 0 0, keyA root h, .v (.int .i64 x.n)] = true := okL_three (ok_ptr (x := .node [.oref 1001 0 true]) (rg_look1 0 ts lk)) (ok_node (okL_two (ok_dv _ _) (ok_v _ _))) (ok_v _ _)
      by_cases hT : ∃ t ∈ ts, t.key = (root, h)
      · obtain ⟨t, ht, htk⟩ := hT
        obtain ⟨rfl, rfl⟩ := Prod.mk.inj htk
        have gd := hinv.good t ht
        have ma := skip_tr hfin lk ht x.n (by have := gd.h; omega) gd.ok
        have hf' := upT_fine (t := skipT t.t x.n) hfin ht ⟨rfl, rfl⟩
        simp [k3]
        refine call_r (X := [(4, _), (7, _), (8, _), (1999, _)]) (c := g) hfin hf' ma (upT_ids' hfin ht) hargs3 rfl (ok_res1 (ok_v _ _)) (by simp [names]) rowsU_low' fun z => ?_
        simp [resRe, reL, reA, hw]
        exact ⟨⟨_, lk, L, U, g⟩, _, end_w (X := [(4, _), (7, _), (8, _)]) [(4, .rows g 33 (keysL L))] hf' (by simp [look]) (by simp [names]) (fun j => .inl rfl) (Nat.le_refl _), inv_skip hinv ht x.n⟩
      · have hT' : ∀ t ∈ ts, t.key ≠ (root, h) := fun t ht e => hT ⟨t, ht, e⟩
        have ma := skip_no hfin lk hT' x.n
        simp [k3]
        refine call_r (X := [(4, _), (7, _), (8, _), (1999, _)]) (c := g) hfin hfin ma hid hargs3 rfl (ok_res1 (ok_v _ _)) (by simp [names]) rowsU_low' fun z => ?_
        simp [resRe, reL, reA, hw]
        exact ⟨⟨ts, lk, L, U, g⟩, _, end_w (X := [(4, _), (7, _), (8, _)]) [(4, .rows g 33 (keysL L))] hinv.fine (by simp [look]) (by simp [names]) (fun j => .inl rfl) (Nat.le_refl _), hinv.succ⟩
    by_cases k4 : x.kind = 4
    · by_cases hT : ∃ t ∈ ts, t.key = (root, h)
      · obtain ⟨t, ht, htk⟩ := hT
        obtain ⟨rfl, rfl⟩ := Prod.mk.inj htk
        have ma := retire_tr hfin lk ht
        have hf' := goT_fine hfin t.id
        have hnx := inv_go hinv ht
        have hlen40 := hinv.len
        simp [k4]
        refine call_r (X := [(4, _), (7, _), (8, _), (1999, _)]) (c := g) hfin hf' ma (fun y hy => ⟨y, (goT_mem.1 hy).1, rfl⟩) hargs rfl (ok_res1 (ok_v _ _)) (by simp [names]) rowsU_low' fun z => ?_
        simp [resRe, reL, reA, hw, hkn]
        refine go_up L.length (fun _ (_ : Unit) => True) (fun j _ cc => ⟨[(3, .ptr 1000 g 0), (4, .row 4 33 g 0 L.length), (5, .row 1999 1 g 0 40), (8, .ptr 8 (c + 1 + 4 + 4) 0), (25, .sl 36 cs), (26, .v (.int .i64 (l.length : Nat))), (27, .v (.int .i64 (i : Nat))), (136, .row 4 33 g 0 L.length), (137, .v (.int .i64 (L.length : Nat))), (138, .v (.int .i64 (j : Nat)))],
          lawM [(4, .rows g 33 (keysL L)), (8, .var (c + 1 + 4 + 4) (.node [dv t.t.root, .v (.int .i64 (t.t.h : Nat))]))] g (rgL g (goT ts t.id) lk) (clrU U L t.key j), cc⟩) () (c + 1000) ?_ trivial ?_ ?_
        · rw [clrU_zero]
          exact end_w (X := [(4, _), (7, _), (8, _)]) _ hf' (by simp [look]) (by simp [names]) (fun j => .inl rfl) (by omega)
        · intro j _ cc hj _
          obtain ⟨y, hy⟩ : ∃ y, L[j]? = some y := ⟨L[j], List.getElem?_eq_getElem hj⟩
          have hgy := keysL_get L j
          rw [hy, Option.map_some] at hgy
          have hjj : (j : Int) < (L.length : Nat) := by omega
          have hwj : IntKind.i64.wrap ((j : Int) + 1) = ((j + 1 : Nat) : Int) := w64_succ (by omega)
          have hcm := cmp_key y.1 t.t.root (y.2 : Nat) (t.t.h : Nat)
          unfold keyA at hgy
          unfold lawM
          by_cases he : y = t.key
          · have hd : decide (y.1 = t.t.root ∧ (y.2 : Int) = (t.t.h : Int)) = true := by rw [he]; simp [Tr.key]
            rw [hd] at hcm
            obtain ⟨hq1, hq2⟩ := clrU_eq (U := U) (L := L) (k := t.key) (j := j) (by rw [hy, he])
            have hj40 : j < 40 := by omega
            have hj40i : (j : Int) < 40 := by omega
            have hel := refU_get (c := g) (U := clrU U L t.key j) hj40
            have hset := refU_clr (c := g) (U := clrU U L t.key j) (U' := clrU U L t.key (j + 1)) hj40 hq1 hq2
            have hUU : ∀ m, clrU U L t.key (j + 1) m = clrU U L t.key j m ∨ clrU U L t.key (j + 1) m = [] := fun m => by
              by_cases e : m = j
              · subst e; exact .inr hq1
              · exact .inl (hq2 m e)
            by_cases hu : clrU U L t.key j j = []
            · rw [if_pos hu] at hel
              simp [hjj, hkn, hgy, hcm, hwj, hj40i, hel, hset, nilS]
              exact ⟨(), _, end_w (X := [(4, _), (8, _), (18, _)]) [(4, .rows g 33 (keysL L)), (8, .var (c + 1 + 4 + 4) (.node [dv t.t.root, .v (.int .i64 (t.t.h : Nat))]))] hf' (by simp [look]) (by simp [names]) hUU (Nat.le_refl _), trivial⟩
            · rw [if_neg hu] at hel
              simp [hjj, hkn, hgy, hcm, hwj, hj40i, hel, hset]
              exact ⟨(), _, end_w (X := [(4, _), (8, _), (18, _)]) [(4, .rows g 33 (keysL L)), (8, .var (c + 1 + 4 + 4) (.node [dv t.t.root, .v (.int .i64 (t.t.h : Nat))]))] hf' (by simp [look]) (by simp [names]) hUU (Nat.le_refl _), trivial⟩
          · have hd : decide (y.1 = t.t.root ∧ (y.2 : Int) = (t.t.h : Int)) = false := by
              rw [decide_eq_false_iff_not]
              rintro ⟨e1, e2⟩
              exact he (Prod.ext e1 (by simp only [Tr.key]; omega))
            rw [hd] at hcm
            have hne := clrU_ne (U := U) (L := L) (k := t.key) (j := j) (by rw [hy]; exact fun e => he (Option.some.inj e))
            simp [hjj, hkn, hgy, hcm, hwj]
            rw [← hne]
            exact ⟨(), _, end_w (X := [(4, _), (8, _), (18, _)]) [(4, .rows g 33 (keysL L)), (8, .var (c + 1 + 4 + 4) (.node [dv t.t.root, .v (.int .i64 (t.t.h : Nat))]))] hf' (by simp [look]) (by simp [names]) (fun j => .inl rfl) (Nat.le_refl _), trivial⟩
        · intro _ cc _
          unfold lawM
          simp [hw]
          exact ⟨⟨_, lk, L, _, g⟩, _, end_w (X := [(4, _), (8, _)]) [(4, .rows g 33 (keysL L))] hf' (by simp [look]) (by simp [names]) (fun j => .inl rfl) (Nat.le_refl _), hnx⟩
      · have hT' : ∀ t ∈ ts, t.key ≠ (root, h) := fun t ht e => hT ⟨t, ht, e⟩
        have ma := retire_no hfin lk hT'
        simp [k4]
        refine call_r (X := [(4, _), (7, _), (8, _), (1999, _)]) (c := g) hfin hfin ma hid hargs rfl (ok_res1 (ok_v _ _)) (by simp [names]) rowsU_low' fun z => ?_
        simp [resRe, reL, reA, hw]
        exact ⟨⟨ts, lk, L, U, g⟩, _, end_w (X := [(4, _), (7, _), (8, _)]) [(4, .rows g 33 (keysL L))] hinv.fine (by simp [look]) (by simp [names]) (fun j => .inl rfl) (Nat.le_refl _), hinv.succ⟩
    simp [k0, k1, k2, k3, k4, hw]
    exact ⟨⟨ts, lk, L, U, g⟩, _, end_w (X := [(4, _), (7, _), (8, _)]) [(4, .rows g 33 (keysL L))] hinv.fine (by simp [look]) (by simp [names]) (fun j => .inl rfl) (Nat.le_refl _), hinv.succ⟩
  · rintro ⟨ts, lk, L, U, g⟩ c _
    unfold stO lawM
    simp
    refine post_end (.inr rfl) ?_
    simp
end Go.Proofs.YtphggannefpleaaDoor.WL

end
section
/-
  CHAPTER 06: arguments that come in.
-/
namespace Go.Proofs.YtphggannefpleaaDoor.WL
open Go

abbrev Ty.cal : Ty := .st [.int .i64, .int .u8, .int .i64, .int .i64, Ty.dg]
theorem ty_cal {a : AV} (h : TyOk Ty.cal a) : ∃ c : Cl, a = c.av ∧ True := by
  obtain ⟨zs, rfl, k⟩ := ty_st h
  obtain ⟨x1, _, rfl, h1, k⟩ := tys_cons k
  obtain ⟨x2, _, rfl, h2, k⟩ := tys_cons k
  obtain ⟨x3, _, rfl, h3, k⟩ := tys_cons k
  obtain ⟨x4, _, rfl, h4, k⟩ := tys_cons k
  obtain ⟨x5, _, rfl, h5, k⟩ := tys_cons k
  obtain rfl := tys_nil k
  obtain ⟨n1, rfl, _⟩ := ty_int h1
  obtain ⟨b, rfl⟩ := ty_u8 h2
  obtain ⟨n3, rfl, _⟩ := ty_int h3
  obtain ⟨n4, rfl, _⟩ := ty_int h4
  obtain ⟨d, rfl⟩ := ty_dg h5
  exact ⟨⟨n1, b, n3, n4, d⟩, rfl, trivial⟩
theorem ty_cals {a : AV} (h : TyOk (.sl 36 64 Ty.cal) a) : ∃ l : List Cl, a = .sl 36 (clsA l) ∧ l.length < 4611686018427387904 := by
  obtain ⟨xs, rfl, ⟨_, h1⟩, h2⟩ := ty_sl h
  obtain ⟨ns, rfl, h3⟩ := map_of_all (f := Cl.av) (p := fun _ => True) fun x hx => ty_cal (h2 x hx)
  exact ⟨ns, rfl, by
    have : ns.length * 64 ≤ reachBytes := by simpa using h1
    unfold reachBytes at this
    omega⟩
end Go.Proofs.YtphggannefpleaaDoor.WL

end
section
/-
  CHAPTER 02: what the row's condition gives the walks: the table in the program's variable.
-/
namespace Go.Proofs.YtphggannefpleaaDoor.WL
open Go

theorem gTable : Tryd.prog.globalNamed "wapentake/sha.table" = some 0 := by kernel_rfl
def tableZ : List Int := table.map w32
theorem laid_eq {H : Type} : (Rows.laid_wapentake_sha_table : DataW H) = Lib.tabData .u32 tableZ := rfl
theorem Es_ints {C : Ctx} : ∀ ws : List UInt32, Es C 1 (U ws) (ws.map fun z => Value.int .u32 (w32 z))
  | [] => rfl
  | w :: ws => ⟨[_], _, rfl, rfl, ⟨rfl, rfl⟩, Es_ints ws⟩
theorem gr_of_laid {W : World} (h : laidMetH Tryd.prog [("wapentake/sha.table", Rows.laid_wapentake_sha_table)] W) : GR ⟨W, fun k => k < W.heap.size, fun _ => none, fun _ => none, fun g => g = 0⟩ Gt := by
  rw [MakeChecks.laidMetH_plain _ _ _ (by kernel_rfl), laid_eq] at h
  have hT : Lib.TabIs Tryd.prog W "wapentake/sha.table" .u32 tableZ := by
    refine Lib.tabIs_of_head (t := 154) (e := 135) (n := 64) gTable ?_ ?_ ?_ ?_ ?_ h
    · kernel_rfl
    · kernel_rfl
    · kernel_rfl
    · kernel_rfl
    · kernel_rfl
  intro n x hx
  unfold Gt at hx
  split at hx
  · rename_i hn
    subst hn
    cases hx
    refine ⟨by simp [closed, closeds, U, closeds_all], 0, 0, _, rfl, ?_, Es_ints table, ?_⟩
    · have h0 := hT.cell gTable 0 (by decide)
      show 0 < W.heap.size
      rcases Nat.eq_zero_or_pos W.heap.size with h1 | h1
      · simp [World.cell?, Array.getElem?_eq_none (Nat.le_of_eq h1)] at h0
      · exact h1
    · intro j u hu
      have hj : j < table.length := by
        rcases Nat.lt_or_ge j table.length with h1 | h1
        · exact h1
        · rw [List.getElem?_eq_none (by simpa using h1)] at hu
          cases hu
      have h1 := hT.cell gTable j (by simpa [tableZ] using hj)
      rw [Nat.zero_add, h1]
      simp [List.getElem?_eq_getElem hj] at hu
      rw [← hu]
      simp [tableZ, List.getD_eq_getElem?_getD, List.getElem?_eq_getElem hj]
  · cases hx
end Go.Proofs.YtphggannefpleaaDoor.WL

end
