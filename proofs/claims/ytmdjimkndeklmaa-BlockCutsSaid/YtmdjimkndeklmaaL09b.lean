/-
  CHAPTER 09: walks of laws: reading.
-/
import Derived.Test.YtmdjimkndeklmaaL09a
import Derived.Test.YtmdjimkndeklmaaS09c
namespace Go.Proofs.Ytmdjimkndeklmaa.WL
open Go
set_option maxHeartbeats 4000000
variable {G : Nat → Option AV}

abbrev reqSh : Sh := .st [.int .i64, .int .i64, .st [.int .i64, .str, .str, .str, .st [.int .i64, .int .i64, .int .i64, .st [.ints .u8 32, .int .i64]]]]
theorem cmp_int (k : IntKind) (a b : Int) : cmpA (.int k) (.v (.int k a)) (.v (.int k b)) = some (decide (a = b)) := by
  simp [cmpA]
  rw [Bool.eq_iff_iff]
  simp
theorem cmp_str (a b : Bytes) : cmpA .str (.v (.string (mkS a))) (.v (.string (mkS b))) = some (decide (a = b)) := by
  simp [cmpA]
  rw [Bool.eq_iff_iff]
  simp
theorem cmp_dg (a b : Dg) : cmpA (.ints .u8 32) (dv a) (dv b) = some (decide (a = b)) := by
  have e : (natsOf a.bs == natsOf b.bs) = decide (a = b) := by
    rw [Bool.eq_iff_iff, beq_iff_eq, decide_eq_true_eq]
    exact ⟨fun h => Dg.ext' (toNats_inj.1 h), fun h => by rw [h]⟩
  have la : (natsOf a.bs).length = 32 := by simp [natsOf]
  have lb : (natsOf b.bs).length = 32 := by simp [natsOf]
  simp [cmpA, la, lb, e]
theorem cmp_req (c n k ck ci cn chh c' n' k' ck' ci' cn' chh' : Int) (ke v o ke' v' o' : Bytes) (cr cr' : Dg) :
    cmpA reqSh (.node [.v (.int .i64 c), .v (.int .i64 n), .node [.v (.int .i64 k), .v (.string (mkS ke)), .v (.string (mkS v)), .v (.string (mkS o)), .node [.v (.int .i64 ck), .v (.int .i64 ci), .v (.int .i64 cn), .node [dv cr, .v (.int .i64 chh)]]]])
      (.node [.v (.int .i64 c'), .v (.int .i64 n'), .node [.v (.int .i64 k'), .v (.string (mkS ke')), .v (.string (mkS v')), .v (.string (mkS o')), .node [.v (.int .i64 ck'), .v (.int .i64 ci'), .v (.int .i64 cn'), .node [dv cr', .v (.int .i64 chh')]]]])
    = some (decide (c = c' ∧ n = n' ∧ k = k' ∧ ke = ke' ∧ v = v' ∧ o = o' ∧ ck = ck' ∧ ci = ci' ∧ cn = cn' ∧ cr = cr' ∧ chh = chh')) := by
  have h1 := fun x y : Int => cmp_int .i64 x y
  unfold cmpA
  simp only [cmpL, h1, cmp_str, cmp_dg, Option.bind_some, Option.map_some]
  unfold cmpA
  simp only [cmpL, h1, cmp_str, cmp_dg, Option.bind_some, Option.map_some]
  unfold cmpA
  simp only [cmpL, h1, cmp_str, cmp_dg, Option.bind_some, Option.map_some]
  unfold cmpA
  simp only [cmpL, h1, cmp_str, cmp_dg, Option.bind_some, Option.map_some]
  congr 1
  rw [Bool.eq_iff_iff]
  simp [and_assoc]

deriving instance DecidableEq for Chg, Req
theorem cmp_reqs (a b : Req) :
    cmpA reqSh (.node [.v (.int .i64 a.client), .v (.int .i64 a.num), .node [.v (.int .i64 a.kind), .v (.string (mkS a.key)), .v (.string (mkS a.val)), .v (.string (mkS a.old)), .node [.v (.int .i64 a.ch.kind), .v (.int .i64 a.ch.id), .v (.int .i64 a.ch.new), .node [dv a.ch.root, .v (.int .i64 a.ch.height)]]]])
      (.node [.v (.int .i64 b.client), .v (.int .i64 b.num), .node [.v (.int .i64 b.kind), .v (.string (mkS b.key)), .v (.string (mkS b.val)), .v (.string (mkS b.old)), .node [.v (.int .i64 b.ch.kind), .v (.int .i64 b.ch.id), .v (.int .i64 b.ch.new), .node [dv b.ch.root, .v (.int .i64 b.ch.height)]]]])
    = some (decide (a = b)) := by
  rw [cmp_req]
  obtain ⟨c, n, k, ke, v, o, ⟨ck, ci, cn, cr, chh⟩⟩ := a
  obtain ⟨c', n', k', ke', v', o', ⟨ck', ci', cn', cr', chh'⟩⟩ := b
  congr 1
  rw [Bool.eq_iff_iff, decide_eq_true_eq, decide_eq_true_eq, Req.mk.injEq, Chg.mk.injEq]

theorem longF_no {q : Req} (h : q.longF = false) : q.key.length ≤ 4096 ∧ q.val.length ≤ 4096 ∧ q.old.length ≤ 4096 := by
  simp only [Req.longF, Bool.or_eq_false_iff, decide_eq_false_iff_not] at h
  omega

theorem reqReads_walk (q : Req) (b : Bytes) (hq : W64 q.client ∧ W64 q.num ∧ W64 q.kind ∧ W64 q.ch.kind ∧ W64 q.ch.id ∧ W64 q.ch.new ∧ W64 q.ch.height) : Meets Try.prog G fn_l09_RequestReads [q.av, .sl 1 (B b)] [] true (.v (.bool true)) [] := by
  refine meets_of_go mix k_l09_RequestReads ⟨by simp, by simp, by simp⟩ ?_
  have m1 := long_meets (G := G) q
  simp [Req.av, Chg.av]
  refine call_intro alive9_meets ?_ ?_
  · simp
  simp
  refine call_intro m1 ?_ ?_
  · simp [Req.av, Chg.av]
  simp [Req.av, Chg.av]
  cases hlq : q.longF
  · by_cases c1 : (8192 : Int) < (b.length : Nat)
    · simp [c1]
      refine post_end (.inr rfl) ?_
      simp
    · obtain ⟨k1, k2, k3⟩ := longF_no hlq
      have hfit : q.Fits := ⟨hq.1, hq.2.1, hq.2.2.1, hq.2.2.2.1, hq.2.2.2.2.1, hq.2.2.2.2.2.1, hq.2.2.2.2.2.2, by omega, by omega, by omega⟩
      have hback := req_back q hfit
      have hql := Req.bytes_len q
      have n1 := read_meets (G := G) b (fits (by omega) (by omega))
      have n2 := qread_meets (G := G) (Rd.of b)
      have n3 := rqread_meets (G := G) (Rd.of b)
      generalize (Rd.of b).req = x at *
      generalize (Rd.of b).req' = r1 at *
      have n4 := good_meets (G := G) r1
      have n5 := rgood_meets (G := G) r1
      have n6 := end_meets (G := G) r1
      have n7 := rend_meets (G := G) r1
      have n8 := qwrite_meets (G := G) [] q (by simp; omega)
      rw [List.nil_append] at n8
      have n9 := bytes_meets (G := G) q.bytes (by omega)
      have n10 := read_meets (G := G) q.bytes (fits (by omega) (by omega))
      have n11 := qread_meets (G := G) (Rd.of q.bytes)
      have n12 := end_meets (G := G) (Rd.of q.bytes).req'
      have n13 := rqgood_meets (G := G) q
      obtain ⟨hb1, hb2⟩ := hback
      rw [hb1] at n12
      generalize (Rd.of q.bytes).req = z at *
      generalize (Rd.of q.bytes).req' = r2 at *
      have hofs : ∀ w : Bytes, (Rd.of w).s = w ∧ (Rd.of w).pre = [] ∧ (Rd.of w).bad = false := fun w => ⟨rfl, rfl, rfl⟩
      generalize q.bytes = y at *
      have hy : List.take y.length y = y := List.take_of_length_le (by omega)
      have htb : List.take b.length b = b := List.take_of_length_le (by omega)
      simp [c1]
      refine call_intro n1 ?_ ?_
      · simp
      simp
      refine call_intro n2 ?_ ?_
      · simp [rdM, hofs]
      simp [rdM, Req.av, Chg.av]
      refine call_intro n3 ?_ ?_
      · simp [rfM, hofs]
      simp [rfM, Req.av, Chg.av, cmp_req]
      refine call_intro n4 ?_ ?_
      · simp [rdM]
      simp [rdM]
      refine call_intro n5 ?_ ?_
      · simp [rfM]
      simp [rfM]
      refine call_intro n6 ?_ ?_
      · simp [rdM]
      simp [rdM]
      refine call_intro n7 ?_ ?_
      · simp [rfM]
      simp [rfM]
      refine call_intro n8 ?_ ?_
      · simp [wrM, Req.av, Chg.av]
      simp [wrM, Req.av, Chg.av]
      refine call_intro n9 ?_ ?_
      · simp [wrM]
      simp [wrM]
      refine call_intro n10 ?_ ?_
      · simp [hy]
      simp [hy]
      refine call_intro n11 ?_ ?_
      · simp [rdM, hofs]
      simp [rdM, Req.av, Chg.av]
      refine call_intro n12 ?_ ?_
      · simp [rdM]
      simp [rdM]
      refine call_intro n13 ?_ ?_
      · simp [Req.av, Chg.av]
      simp [Req.av, Chg.av]
      refine call_intro n12 ?_ ?_
      · simp [rdM]
      cases hg : q.good
      · simp [rdM]
        refine post_end (.inr rfl) ?_
        simp
      · obtain rfl := hb2 hg
        simp [rdM, cmp_req]
        refine post_end (.inr rfl) ?_
        simp
  · simp
    refine post_end (.inr rfl) ?_
    simp

theorem rep2 (z a b : AV) : ((rep 2 z).set 0 a).set 1 b = [a, b] := (rfl)
theorem reqAnswers_walk (a o : Rep) (b : Bytes) (ha : W64 a.client ∧ W64 a.num ∧ W64 a.code) (hb : W64 o.client ∧ W64 o.num ∧ W64 o.code) (hfa : ∀ v ∈ a.vals, v.length ≤ reachBytes) (hfb : ∀ v ∈ o.vals, v.length ≤ reachBytes) :
    Meets Try.prog G fn_l09_RequestAnswers [a.avS, o.avS, .sl 1 (B b)] [] true (.v (.bool true)) [] := by
  refine meets_of_go mix k_l09_RequestAnswers ⟨by simp, by simp, by simp⟩ ?_
  have m1 := large_meets (G := G) a hfa
  have m2 := large_meets (G := G) o hfb
  simp [Rep.avS]
  refine call_intro alive9_meets ?_ ?_
  · simp
  simp
  refine call_intro m1 ?_ ?_
  · simp [Rep.avS]
  cases hla : a.large
  · simp [Rep.avS]
    refine call_intro m2 ?_ ?_
    · simp [Rep.avS]
    cases hlo : o.large
    · by_cases c1 : (16384 : Int) < (b.length : Nat)
      · simp [Rep.avS, c1]
        refine post_end (.inr rfl) ?_
        simp
      · obtain ⟨k1, k2, k3⟩ := large_no hla
        obtain ⟨l1, l2, l3⟩ := large_no hlo
        have hfa := large_fits hla ha.1 ha.2.1 ha.2.2
        have hfo := large_fits hlo hb.1 hb.2.1 hb.2.2
        have n1 := qwrep_meets (G := G) [] a (by simp; omega) (by omega)
        rw [List.nil_append] at n1
        have b1 := bytes_meets (G := G) a.bytes (by omega)
        have n2 := rqbytes_meets (G := G) a (by omega) (by omega)
        have n3 := qsame_meets (G := G) a o (by omega) (by omega) (by omega) (by omega)
        have n4 := rqsame_meets (G := G) a o (by omega)
        have n5 := qsame_meets (G := G) a a (by omega) (by omega) (by omega) (by omega)
        have hs : decide (a.bytes = o.bytes) = a.same o := by
          rw [Bool.eq_iff_iff, decide_eq_true_eq, Rep.bytes_inj hfa hfo]
          simp only [Rep.same, Bool.and_eq_true, decide_eq_true_eq]
          constructor
          · rintro rfl; simp
          · rintro ⟨⟨⟨e1, e2⟩, e3⟩, e4⟩
            cases a; cases o
            simp only at e1 e2 e3 e4
            subst e1 e2 e3 e4
            rfl
        rw [hs] at n3
        rw [decide_eq_true rfl] at n5
        generalize a.bytes = x at *
        generalize a.same o = e at *
        have hx : List.take x.length x = x := List.take_of_length_le (by omega)
        have hbb : (x != x) = false := by simp
        have hofs : ∀ w : Bytes, (Rd.of w).s = w ∧ (Rd.of w).pre = [] ∧ (Rd.of w).bad = false := fun w => ⟨rfl, rfl, rfl⟩
        simp [Rep.avS, c1]
        refine call_intro n1 ?_ ?_
        · simp [wrM, Rep.avS]
        simp [wrM, Rep.avS]
        refine call_intro b1 ?_ ?_
        · simp [wrM]
        simp [wrM, hx]
        refine call_intro n2 ?_ ?_
        · simp [Rep.avS]
        simp [Rep.avS]
        refine call_intro n3 ?_ ?_
        · simp [Rep.avS]
        simp [Rep.avS]
        refine call_intro n4 ?_ ?_
        · simp [Rep.avS]
        simp [Rep.avS]
        refine call_intro n5 ?_ ?_
        · simp [Rep.avS]
        simp [Rep.avS]
        refine call_intro n2 ?_ ?_
        · simp [Rep.avS]
        simp [Rep.avS]
        refine go_up 2 (fun j (_ : Unit) => True) (fun j _ c => ⟨[(57, .arr 1 [.v (.string (mkS b)), .v (.string (mkS x))]), (58, .v (.int .i64 (j : Nat)))], [], c + 1⟩) () _ (Weak.re (by simp [rep2])) trivial ?_ ?_
        · intro j _ c hj _
          have hw : IntKind.i64.wrap ((j : Int) + 1) = ((j + 1 : Nat) : Int) := w64_succ (by omega)
          have hj2 : (j : Int) < 2 := by omega
          obtain ⟨w, hwl, hw2⟩ : ∃ w : Bytes, w.length ≤ 20000 ∧ [AV.v (.string (mkS b)), AV.v (.string (mkS x))][j]? = some (AV.v (.string (mkS w))) := by
            rcases (show j = 0 ∨ j = 1 by omega) with rfl | rfl
            · exact ⟨b, by omega, rfl⟩
            · exact ⟨x, by omega, rfl⟩
          obtain ⟨l, hl⟩ : ∃ l, l = [AV.v (.string (mkS b)), AV.v (.string (mkS x))] := ⟨_, rfl⟩
          rw [← hl] at hw2 ⊢
          have hll : l.length = 2 := by rw [hl]; rfl
          obtain ⟨hlt, hge⟩ := List.getElem?_eq_some_iff.1 hw2
          have p0 := read_meets (G := G) w (fits (by omega) (by omega))
          have p1 := qrrep_meets (G := G) (Rd.of w)
          have p2 := rqrrep_meets (G := G) (Rd.of w)
          have hrl : (Rd.of w).rep.vals.length ≤ 256 := by
            have := (Rd.of w).repN_eq
            unfold Rd.rep
            split
            · simp [Rep.zero]
            · simp [Rd.rep0]; omega
          generalize (Rd.of w).rep = z at *
          generalize (Rd.of w).rep' = r at *
          have p3 := rqsame_meets (G := G) z z (by omega)
          have hzz : z.same z = true := by simp [Rep.same]
          rw [hzz] at p3
          have p4 := good_meets (G := G) r
          have p5 := rgood_meets (G := G) r
          have p6 := end_meets (G := G) r
          have p7 := rend_meets (G := G) r
          have hm : w.length ≤ maxLen := le_max (by omega)
          have htz : List.take z.vals.length z.vals = z.vals := List.take_of_length_le (by omega)
          have htw : List.take w.length w = w := List.take_of_length_le (by omega)
          simp [hj, hj2, hw2, hge, hll, hm]
          refine call_intro p0 ?_ ?_
          · simp
          simp
          refine call_intro p1 ?_ ?_
          · simp [rdM, hofs]
          simp [rdM, Rep.avR]
          refine call_intro p2 ?_ ?_
          · simp [rfM, hofs]
          simp [rfM, Rep.avR]
          refine call_intro p3 ?_ ?_
          · simp [Rep.avS, htz]
          simp [Rep.avS, htz]
          refine call_intro p4 ?_ ?_
          · simp [rdM]
          simp [rdM]
          refine call_intro p5 ?_ ?_
          · simp [rfM]
          simp [rfM]
          refine call_intro p6 ?_ ?_
          · simp [rdM]
          simp [rdM]
          refine call_intro p7 ?_ ?_
          · simp [rfM]
          simp [rfM, hw]
          exact ⟨(), _, Weak.re (by simp [hl]), trivial⟩
        · intro _ c _
          simp
          refine post_end (.inr rfl) ?_
          simp
    · simp [Rep.avS]
      refine post_end (.inr rfl) ?_
      simp
  · simp [Rep.avS]
    refine post_end (.inr rfl) ?_
    simp
end Go.Proofs.Ytmdjimkndeklmaa.WL
