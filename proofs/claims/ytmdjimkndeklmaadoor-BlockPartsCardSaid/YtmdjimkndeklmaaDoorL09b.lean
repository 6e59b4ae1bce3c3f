/-
  CHAPTER 09: walks of laws: reading.
-/
import Derived.Test.YtmdjimkndeklmaaDoorL09a
import Derived.Test.YtmdjimkndeklmaaDoorS09c
namespace Go.Proofs.YtmdjimkndeklmaaDoor.WL
open Go
set_option maxHeartbeats 4000000
variable {G : Nat → Option AV}

abbrev reqSh : Sh := .st [.int .i64, .int .i64, .st [.int .i64, .str, .str, .str, .st [.int .i64, .int .i64, .int .i64, .st [.ints .u8 32, .int .i64]]]]
theorem cmp_int (k : IntKind) (a b : Int) : cmpA (.int k) (.v (.int k a)) (.v (.int k b)) = some (decide (a = b)) := by
  simp [cmpA]
  rw [Bool.eq_iff_iff]
  simp
theorem cmp_str (a b : Bytes) : cmpA .str (.v (.string (mkS a))) (.v (.string (mkS b))) = some (decide (a = b)) := by
  simp [cmpA]
  rw [Bool.eq_iff_iff]
  simp
theorem cmp_dg (a b : Dg) : cmpA (.ints .u8 32) (dv a) (dv b) = some (decide (a = b)) := by
  have e : (natsOf a.bs == natsOf b.bs) = decide (a = b) := by
    rw [Bool.eq_iff_iff, beq_iff_eq, decide_eq_true_eq]
    exact ⟨fun h => Dg.ext' (toNats_inj.1 h), fun h => by rw [h]⟩
  have la : (natsOf a.bs).length = 32 := by simp [natsOf]
  have lb : (natsOf b.bs).length = 32 := by simp [natsOf]
  simp [cmpA, la, lb, e]
theorem cmp_req (c n k ck ci cn chh c' n' k' ck' ci' cn' chh' : Int) (ke v o ke' v' o' : Bytes) (cr cr' : Dg) :
    cmpA reqSh (.node [.v (.int .i64 c), .v (.int .i64 n), .node [.v (.int .i64 k), .v (.string (mkS ke)), .v (.string (mkS v)), .v (.string (mkS o)), .node [.v (.int .i64 ck), .v (.int .i64 ci), .v (.int .i64 cn), .node [dv cr, .v (.int .i64 chh)]]]])
      (.node [.v (.int .i64 c'), .v (.int .i64 n'), .node [.v (.int .i64 k'), .v (.string (mkS ke')), .v (.string (mkS v')), .v (.string (mkS o')), .node [.v (.int .i64 ck'), .v (.int .i64 ci'), .v (.int .i64 cn'), .node [dv cr', .v (.int .i64 chh')]]]])
    = some (decide (c = c' ∧ n = n' ∧ k = k' ∧ ke = ke' ∧ v = v' ∧ o = o' ∧ ck = ck' ∧ ci = ci' ∧ cn = cn' ∧ cr = cr' ∧ chh = chh')) := by
  have h1 := fun x y : Int => cmp_int .i64 x y
  unfold cmpA
  simp only [cmpL, h1, cmp_str, cmp_dg, Option.bind_some, Option.map_some]
  unfold cmpA
  simp only [cmpL, h1, cmp_str, cmp_dg, Option.bind_some, Option.map_some]
  unfold cmpA
  simp only [cmpL, h1, cmp_str, cmp_dg, Option.bind_some, Option.map_some]
  unfold cmpA
  simp only [cmpL, h1, cmp_str, cmp_dg, Option.bind_some, Option.map_some]
  congr 1
  rw [Bool.eq_iff_iff]
  simp [and_assoc]

deriving instance DecidableEq for Chg, Req
theorem cmp_reqs (a b : Req) :
    cmpA reqSh (.node [.v (.int .i64 a.client), .v (.int .i64 a.num), .node [.v (.int .i64 a.kind), .v (.string (mkS a.key)), .v (.string (mkS a.val)), .v (.string (mkS a.old)), .node [.v (.int .i64 a.ch.kind), .v (.int .i64 a.ch.id), .v (.int .i64 a.ch.new), .node [dv a.ch.root, .v (.int .i64 a.ch.height)]]]])
      (.node [.v (.int .i64 b.client), .v (.int .i64 b.num), .node [.v (.int .i64 b.kind), .v (.string (mkS b.key)), .v (.string (mkS b.val)), .v (.string (mkS b.old)), .node [.v (.int .i64 b.ch.kind), .v (.int .i64 b.ch.id), .v (.int .i64 b.ch.new), .node [dv b.ch.root, .v (.int .i64 b.ch.height)]]]])
    = some (decide (a = b)) := by
  rw [cmp_req]
  obtain ⟨c, n, k, ke, v, o, ⟨ck, ci, cn, cr, chh⟩⟩ := a
  obtain ⟨c', n', k', ke', v', o', ⟨ck', ci', cn', cr', chh'⟩⟩ := b
  congr 1
  rw [Bool.eq_iff_iff, decide_eq_true_eq, decide_eq_true_eq, Req.mk.injEq, Chg.mk.injEq]

theorem longF_no {q : Req} (h : q.longF = false) : q.key.length ≤ 4096 ∧ q.val.length ≤ 4096 ∧ q.old.length ≤ 4096 := by
  simp only [Req.longF, Bool.or_eq_false_iff, decide_eq_false_iff_not] at h
  omega

theorem rep2 (z a b : AV) : ((rep 2 z).set 0 a).set 1 b = [a, b] := (rfl)
end Go.Proofs.YtmdjimkndeklmaaDoor.WL
