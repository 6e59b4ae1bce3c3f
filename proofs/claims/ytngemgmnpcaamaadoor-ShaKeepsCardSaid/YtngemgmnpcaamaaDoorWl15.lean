/-
  EACH ABSTRACT STEP IS THE MODEL's: operation by operation. (Printed by gen15.py.)
-/
import Derived.Test.YtngemgmnpcaamaaDoorWl14
namespace Go.Proofs.YtngemgmnpcaamaaDoor.WL
open Go

section
variable {P : Program} {w0 : World} {Ws I0 : Nat → Prop} {C : Ctx} {G fr : Nat → Option AV} {g d : Nat} {o : Oper} {a : Act} {av : AV} {xs : List COpd} {vals : List AV} {us : List (Nat × Option Loc)}

theorem ok_mov (hc : chkOp P o.op xs (.mov) = true) (hev : evs G fr xs = some vals) (hf : FR C fr a) (hG : GR C G) (hw : WR w0 Ws I0 C) (hnew : ¬ C.used g) (hst : step (.mov) vals C.m g d = some (av, us)) : Does P w0 Ws I0 C g o a av us := by
  obtain ⟨dst, op, type, pos, after, guard⟩ := o
  simp only [chkOp] at hc
  split at hc <;> first | (cases hc; done) | skip
  all_goals
    have hs := evs_ok hf hG hc hev
    simp only [List.map_cons, List.map_nil] at hs
    simp only [step] at hst
    split at hst <;> first | (cases hst; done) | skip
    simp only [Option.some.injEq, Prod.mk.injEq] at hst
    obtain ⟨rfl, rfl⟩ := hst
    obtain ⟨y, e, h1⟩ := SVl_one hs
    simp only [List.cons.injEq, and_true] at e
    subst e
    exact Does.quiet hw (by simp only [execOp]; rfl) h1

theorem ok_pick (hc : chkOp P o.op xs (.pick) = true) (hev : evs G fr xs = some vals) (hf : FR C fr a) (hG : GR C G) (hw : WR w0 Ws I0 C) (hnew : ¬ C.used g) (hst : step (.pick) vals C.m g d = some (av, us)) : Does P w0 Ws I0 C g o a av us := by
  obtain ⟨dst, op, type, pos, after, guard⟩ := o
  simp only [chkOp] at hc
  split at hc <;> first | (cases hc; done) | skip
  rename_i co xo yo
  have hs := evs_ok hf hG hc hev
  simp only [List.map_cons, List.map_nil] at hs
  simp only [step] at hst
  split at hst <;> first | (cases hst; done) | skip
  simp only [Option.some.injEq, Prod.mk.injEq] at hst
  obtain ⟨rfl, rfl⟩ := hst
  simp only [SVl] at hs
  obtain ⟨y0, r, e, h0, y1, r1, rfl, h1, y2, r2, rfl, h2, rfl⟩ := hs
  simp only [List.cons.injEq, and_true] at e
  obtain ⟨e0, e1, e2⟩ := e
  have e0' := SV_v h0
  rename_i t _ _
  refine Does.quiet hw (y := if t then y1 else y2) ?_ ?_
  · simp [execOp, e0, e0', e1, e2, asBool]
  · cases t <;> first | exact h1 | exact h2

theorem ok_bin {bop : BinOp} (hc : chkOp P o.op xs (.bin bop) = true) (hev : evs G fr xs = some vals) (hf : FR C fr a) (hG : GR C G) (hw : WR w0 Ws I0 C) (hnew : ¬ C.used g) (hst : step (.bin bop) vals C.m g d = some (av, us)) : Does P w0 Ws I0 C g o a av us := by
  obtain ⟨dst, op, type, pos, after, guard⟩ := o
  simp only [chkOp] at hc
  split at hc <;> first | (cases hc; done) | skip
  rename_i o t xo yo yt
  simp only [Bool.and_eq_true, decide_eq_true_eq] at hc
  obtain ⟨rfl, hc⟩ := hc
  have hs := evs_ok hf hG hc hev
  simp only [List.map_cons, List.map_nil] at hs
  simp only [step] at hst
  split at hst <;> first | (cases hst; done) | skip
  obtain ⟨y, y', e, h1, h2⟩ := SVl_two hs
  simp only [List.cons.injEq, and_true] at e
  obtain ⟨e1, e2⟩ := e
  simp only [Option.map_eq_some_iff, Prod.mk.injEq] at hst
  obtain ⟨r, hr, rfl, rfl⟩ := hst
  have b1 := SV_v h1
  have b2 := SV_v h2
  subst b1 b2
  have hrun := sim_bin (P := P) (w := C.w) (t := t) (xo := xo) (yo := yo) hr
  exact Does.quiet hw (y := r) (by simp only [execOp, e1, e2]; rw [Sem.run_bind, hrun]; rfl) (SV_mk (oneCell_bin hr))

theorem ok_eqb {neg : Bool} (hc : chkOp P o.op xs (.eqb neg) = true) (hev : evs G fr xs = some vals) (hf : FR C fr a) (hG : GR C G) (hw : WR w0 Ws I0 C) (hnew : ¬ C.used g) (hst : step (.eqb neg) vals C.m g d = some (av, us)) : Does P w0 Ws I0 C g o a av us := by
  obtain ⟨dst, op, type, pos, after, guard⟩ := o
  simp only [chkOp] at hc
  split at hc <;> first | (cases hc; done) | skip
  rename_i o t xo yo yt
  simp only [Bool.and_eq_true, decide_eq_true_eq] at hc
  obtain ⟨⟨rfl, hb⟩, hc⟩ := hc
  have hs := evs_ok hf hG hc hev
  simp only [List.map_cons, List.map_nil] at hs
  simp only [step] at hst
  split at hst <;> first | (cases hst; done) | skip
  obtain ⟨y, y', e, h1, h2⟩ := SVl_two hs
  simp only [List.cons.injEq, and_true] at e
  obtain ⟨e1, e2⟩ := e
  simp only [Option.map_eq_some_iff, Prod.mk.injEq] at hst
  obtain ⟨r, hr, rfl, rfl⟩ := hst
  have b1 := SV_v h1
  have b2 := SV_v h2
  subst b1 b2
  have hrun := sim_eqb (P := P) (w := C.w) (xo := xo) (yo := yo) (isBoolT_eq hb) hr
  refine Does.quiet hw (y := r) (by simp only [execOp, e1, e2]; rw [Sem.run_bind, hrun]; rfl) (SV_mk ?_)
  unfold eqbV at hr
  split at hr
  · obtain rfl := Option.some.inj hr; rfl
  · cases hr

theorem ok_eqp {neg : Bool} (hc : chkOp P o.op xs (.eqp neg) = true) (hev : evs G fr xs = some vals) (hf : FR C fr a) (hG : GR C G) (hw : WR w0 Ws I0 C) (hnew : ¬ C.used g) (hst : step (.eqp neg) vals C.m g d = some (av, us)) : Does P w0 Ws I0 C g o a av us := by
  obtain ⟨dst, op, type, pos, after, guard⟩ := o
  simp only [chkOp] at hc
  split at hc <;> first | (cases hc; done) | skip
  rename_i o t xo yo yt
  simp only [Bool.and_eq_true, decide_eq_true_eq] at hc
  obtain ⟨⟨rfl, hb⟩, hc⟩ := hc
  have hs := evs_ok hf hG hc hev
  simp only [List.map_cons, List.map_nil] at hs
  simp only [step] at hst
  split at hst <;> first | (cases hst; done) | skip
  obtain ⟨y, y', e, h1, h2⟩ := SVl_two hs
  simp only [List.cons.injEq, and_true] at e
  obtain ⟨e1, e2⟩ := e
  have b2 := SV_v h2
  subst b2
  obtain ⟨e, he⟩ := isPtr_eq hb
  split at hst
  · simp only [Option.some.injEq, Prod.mk.injEq] at hst
    obtain ⟨rfl, rfl⟩ := hst
    have b1 := SV_v h1
    subst b1
    have hrun := sim_eqp (P := P) (w := C.w) (neg := neg) (xo := xo) (yo := yo) none he
    exact Does.quiet hw (y := .bool !neg) (by simp only [execOp, e1, e2]; rw [Sem.run_bind, hrun]; cases neg <;> rfl) (SV_mk rfl)
  · split at hst
    · rename_i hq
      simp only [Option.some.injEq, Prod.mk.injEq] at hst
      obtain ⟨rfl, rfl⟩ := hst
      obtain ⟨ad, rfl⟩ := sim_nilCheck h1 hq
      have hrun := sim_eqp (P := P) (w := C.w) (neg := neg) (xo := xo) (yo := yo) (some ad) he
      exact Does.quiet hw (y := .bool neg) (by simp only [execOp, e1, e2]; rw [Sem.run_bind, hrun]; cases neg <;> rfl) (SV_mk rfl)
    · cases hst

theorem ok_eqa {neg : Bool} {k : IntKind} {n : Nat} (hc : chkOp P o.op xs (.eqa neg k n) = true) (hev : evs G fr xs = some vals) (hf : FR C fr a) (hG : GR C G) (hw : WR w0 Ws I0 C) (hnew : ¬ C.used g) (hst : step (.eqa neg k n) vals C.m g d = some (av, us)) : Does P w0 Ws I0 C g o a av us := by
  obtain ⟨dst, op, type, pos, after, guard⟩ := o
  simp only [chkOp] at hc
  split at hc <;> first | (cases hc; done) | skip
  rename_i o t xo yo yt
  simp only [Bool.and_eq_true, decide_eq_true_eq] at hc
  obtain ⟨⟨rfl, hc⟩, hty⟩ := hc
  have hs := evs_ok hf hG hc hev
  simp only [List.map_cons, List.map_nil] at hs
  simp only [step] at hst
  split at hst <;> first | (cases hst; done) | skip
  obtain ⟨y, y', e, h1, h2⟩ := SVl_two hs
  simp only [List.cons.injEq, and_true] at e
  obtain ⟨e1, e2⟩ := e
  split at hst
  · rename_i as bs ha hb
    split at hst
    · rename_i hl
      simp only [Option.some.injEq, Prod.mk.injEq] at hst
      obtain ⟨rfl, rfl⟩ := hst
      obtain ⟨rfl, hl2⟩ := hl
      split at hty
      · rename_i n' e hae
        simp only [Bool.and_eq_true, beq_iff_eq, Bool.not_eq_true'] at hty
        obtain ⟨⟨⟨rfl, he⟩, hsz⟩, hgd⟩ := hty
        have b1 := SV_arrInts h1 ha
        have b2 := SV_arrInts h2 hb
        subst b1 b2
        have heq : (Op.equal t (.agg (as.map (Value.int k)).toArray) (.agg (bs.map (Value.int k)).toArray)).run P C.w = .ok (as == bs) C.w :=
          run_eqInts (P := P) (w := C.w) (D := 9999) (by omega) (isArr_eq hae) (isInt_eq he) hsz hl2
        have hg := run_eqGuard_agg (P := P) (w := C.w) (op := eqOp neg) (t := t) (xo := xo) (yo := yo) (xs := (as.map (Value.int k)).toArray) (ys := (bs.map (Value.int k)).toArray) hgd
        refine Does.quiet hw (y := .bool (if neg then !(as == bs) else as == bs)) ?_ (SV_mk rfl)
        have hrun : (do eqGuard (eqOp neg) t xo yo (.agg (as.map (Value.int k)).toArray) (.agg (bs.map (Value.int k)).toArray); binOp (eqOp neg) t (.agg (as.map (Value.int k)).toArray) (.agg (bs.map (Value.int k)).toArray) : Sem Value).run P C.w = .ok (.bool (if neg then !(as == bs) else as == bs)) C.w := by
          rw [Sem.run_bind, hg, Result.andThen_ok]
          cases neg <;> simp [eqOp, binOp, heq]
        simp only [execOp, e1, e2]
        rw [Sem.run_bind, hrun]
        rfl
      · cases hty
    · cases hst
  · cases hst

theorem ok_eqs {neg : Bool} {sh : Sh} (hc : chkOp P o.op xs (.eqs neg sh) = true) (hev : evs G fr xs = some vals) (hf : FR C fr a) (hG : GR C G) (hw : WR w0 Ws I0 C) (hnew : ¬ C.used g) (hst : step (.eqs neg sh) vals C.m g d = some (av, us)) : Does P w0 Ws I0 C g o a av us := by
  obtain ⟨dst, op, type, pos, after, guard⟩ := o
  simp only [chkOp] at hc
  split at hc <;> first | (cases hc; done) | skip
  rename_i o t xo yo yt
  simp only [Bool.and_eq_true, decide_eq_true_eq, Bool.not_eq_true'] at hc
  obtain ⟨⟨rfl, hc⟩, ⟨⟨hsh, hag⟩, hgd⟩, hdep⟩ := hc
  have hs := evs_ok hf hG hc hev
  simp only [List.map_cons, List.map_nil] at hs
  simp only [step] at hst
  split at hst <;> first | (cases hst; done) | skip
  rename_i av1 av2
  obtain ⟨y, y', e, h1, h2⟩ := SVl_two hs
  simp only [List.cons.injEq, and_true] at e
  obtain ⟨e1, e2⟩ := e
  simp only [Option.map_eq_some_iff, Prod.mk.injEq] at hst
  obtain ⟨r, hr, rfl, rfl⟩ := hst
  obtain ⟨i1, i2⟩ := cmpA_agg hr hag
  obtain ⟨cs, rfl, v1⟩ := SV_isAgg h1 i1
  obtain ⟨ds, rfl, v2⟩ := SV_isAgg h2 i2
  have heq := eqSh (P := P) (w := C.w) sh t av1 av2 cs.toList ds.toList r 10000 hsh hr v1 v2 (by omega)
  rw [hag] at heq
  have hg := run_eqGuard_agg (P := P) (w := C.w) (op := eqOp neg) (t := t) (xo := xo) (yo := yo) (xs := cs) (ys := ds) hgd
  refine Does.quiet hw (y := .bool (if neg then !r else r)) ?_ (SV_mk rfl)
  have heq' : (Op.equal t (.agg cs) (.agg ds)).run P C.w = .ok r C.w := heq
  have hrun : (do eqGuard (eqOp neg) t xo yo (.agg cs) (.agg ds); binOp (eqOp neg) t (.agg cs) (.agg ds) : Sem Value).run P C.w = .ok (.bool (if neg then !r else r)) C.w := by
    rw [Sem.run_bind, hg, Result.andThen_ok]
    cases neg <;> simp [eqOp, binOp, heq']
  simp only [execOp, e1, e2]
  rw [Sem.run_bind, hrun]
  rfl

theorem ok_not (hc : chkOp P o.op xs (.not) = true) (hev : evs G fr xs = some vals) (hf : FR C fr a) (hG : GR C G) (hw : WR w0 Ws I0 C) (hnew : ¬ C.used g) (hst : step (.not) vals C.m g d = some (av, us)) : Does P w0 Ws I0 C g o a av us := by
  obtain ⟨dst, op, type, pos, after, guard⟩ := o
  simp only [chkOp] at hc
  split at hc <;> first | (cases hc; done) | skip
  rename_i o t x
  simp only [Bool.and_eq_true, decide_eq_true_eq] at hc
  obtain ⟨rfl, hc⟩ := hc
  have hs := evs_ok hf hG hc hev
  simp only [List.map_cons, List.map_nil] at hs
  simp only [step] at hst
  split at hst <;> first | (cases hst; done) | skip
  obtain ⟨y, e, h1⟩ := SVl_one hs
  simp only [List.cons.injEq, and_true] at e
  simp only [Option.some.injEq, Prod.mk.injEq] at hst
  obtain ⟨rfl, rfl⟩ := hst
  have b1 := SV_v h1
  subst b1
  exact Does.quiet hw (y := .bool _) (by simp only [execOp, e]; simp [Op.unary]) (SV_mk rfl)

theorem ok_un {uop : UnOp} (hc : chkOp P o.op xs (.un uop) = true) (hev : evs G fr xs = some vals) (hf : FR C fr a) (hG : GR C G) (hw : WR w0 Ws I0 C) (hnew : ¬ C.used g) (hst : step (.un uop) vals C.m g d = some (av, us)) : Does P w0 Ws I0 C g o a av us := by
  obtain ⟨dst, op, type, pos, after, guard⟩ := o
  simp only [chkOp] at hc
  split at hc <;> first | (cases hc; done) | skip
  rename_i o t x
  simp only [Bool.and_eq_true, decide_eq_true_eq] at hc
  obtain ⟨rfl, hc⟩ := hc
  have hs := evs_ok hf hG hc hev
  simp only [List.map_cons, List.map_nil] at hs
  simp only [step] at hst
  split at hst <;> first | (cases hst; done) | skip
  obtain ⟨y, e, h1⟩ := SVl_one hs
  simp only [List.cons.injEq, and_true] at e
  simp only [Option.map_eq_some_iff, Prod.mk.injEq] at hst
  obtain ⟨r, hr, rfl, rfl⟩ := hst
  have b1 := SV_v h1
  subst b1
  unfold unV at hr
  split at hr <;> first | (cases hr; done) | skip
  all_goals
    obtain rfl := Option.some.inj hr
    exact Does.quiet hw (y := .int _ _) (by simp only [execOp, e]; simp [Op.unary, Op.intArith, Op.intBits, bitsOp]) (SV_mk rfl)

theorem ok_convI {k : IntKind} (hc : chkOp P o.op xs (.convI k) = true) (hev : evs G fr xs = some vals) (hf : FR C fr a) (hG : GR C G) (hw : WR w0 Ws I0 C) (hnew : ¬ C.used g) (hst : step (.convI k) vals C.m g d = some (av, us)) : Does P w0 Ws I0 C g o a av us := by
  obtain ⟨dst, op, type, pos, after, guard⟩ := o
  simp only [chkOp] at hc
  split at hc <;> first | (cases hc; done) | skip
  rename_i s t x
  simp only [Bool.and_eq_true, beq_iff_eq] at hc
  obtain ⟨⟨hd, hs1⟩, hc⟩ := hc
  have hs := evs_ok hf hG hc hev
  simp only [List.map_cons, List.map_nil] at hs
  simp only [step] at hst
  split at hst <;> first | (cases hst; done) | skip
  obtain ⟨y, e, h1⟩ := SVl_one hs
  simp only [List.cons.injEq, and_true] at e
  simp only [Option.some.injEq, Prod.mk.injEq] at hst
  obtain ⟨rfl, rfl⟩ := hst
  have b1 := SV_v h1
  subst b1
  obtain ⟨u, hu⟩ := Option.isSome_iff_exists.1 hs1
  exact Does.quiet hw (y := .int k _) (by simp only [execOp, e]; simp [convert, run_underlying hu, run_underlying (isInt_eq hd), Conv.intToInt]) (SV_mk rfl)

theorem ok_convId (hc : chkOp P o.op xs (.convId) = true) (hev : evs G fr xs = some vals) (hf : FR C fr a) (hG : GR C G) (hw : WR w0 Ws I0 C) (hnew : ¬ C.used g) (hst : step (.convId) vals C.m g d = some (av, us)) : Does P w0 Ws I0 C g o a av us := by
  obtain ⟨dst, op, type, pos, after, guard⟩ := o
  simp only [chkOp] at hc
  split at hc <;> first | (cases hc; done) | skip
  rename_i s t x
  simp only [Bool.and_eq_true, beq_iff_eq] at hc
  obtain ⟨⟨hd, hs1⟩, hc⟩ := hc
  have hs := evs_ok hf hG hc hev
  simp only [List.map_cons, List.map_nil] at hs
  simp only [step] at hst
  split at hst <;> first | (cases hst; done) | skip
  obtain ⟨y, e, h1⟩ := SVl_one hs
  simp only [List.cons.injEq, and_true] at e
  simp only [Option.some.injEq, Prod.mk.injEq] at hst
  obtain ⟨rfl, rfl⟩ := hst
  have b1 := SV_v h1
  subst b1
  obtain ⟨u, hu⟩ := Option.isSome_iff_exists.1 hs1
  exact Does.quiet hw (y := .string _) (by simp only [execOp, e]; simp [convert, run_underlying hu, run_underlying (isStr_eq hd)]) (SV_mk rfl)

theorem ok_convS (hc : chkOp P o.op xs (.convS) = true) (hev : evs G fr xs = some vals) (hf : FR C fr a) (hG : GR C G) (hw : WR w0 Ws I0 C) (hnew : ¬ C.used g) (hst : step (.convS) vals C.m g d = some (av, us)) : Does P w0 Ws I0 C g o a av us := by
  obtain ⟨dst, op, type, pos, after, guard⟩ := o
  simp only [chkOp] at hc
  split at hc <;> first | (cases hc; done) | skip
  rename_i s t x
  simp only [Bool.and_eq_true] at hc
  obtain ⟨⟨hd, h8⟩, hc⟩ := hc
  have hs := evs_ok hf hG hc hev
  simp only [List.map_cons, List.map_nil] at hs
  simp only [step] at hst
  split at hst <;> first | (cases hst; done) | skip
  obtain ⟨y, e, h1⟩ := SVl_one hs
  simp only [List.cons.injEq, and_true] at e
  simp only [Option.bind_eq_some_iff, Option.map_eq_some_iff, Prod.mk.injEq] at hst
  obtain ⟨ys, hy, ns, hn, rfl, rfl⟩ := hst
  split at h8
  · rename_i el hel
    simp only [beq_iff_eq] at h8
    have hrun := sim_convS (P := P) hw (isSlice_eq hel) (isInt_eq h8) (isStr_eq hd) h1 hy hn
    exact Does.quiet hw (y := .string (strOfNums ns)) (by simp [execOp, e, hrun]) (SV_mk rfl)
  · cases h8

theorem ok_convB (hc : chkOp P o.op xs (.convB) = true) (hev : evs G fr xs = some vals) (hf : FR C fr a) (hG : GR C G) (hw : WR w0 Ws I0 C) (hnew : ¬ C.used g) (hst : step (.convB) vals C.m g d = some (av, us)) : Does P w0 Ws I0 C g o a av us := by
  obtain ⟨dst, op, type, pos, after, guard⟩ := o
  simp only [chkOp] at hc
  split at hc <;> first | (cases hc; done) | skip
  rename_i s t x
  simp only [Bool.and_eq_true] at hc
  obtain ⟨⟨hs1, h8⟩, hc⟩ := hc
  have hs := evs_ok hf hG hc hev
  simp only [List.map_cons, List.map_nil] at hs
  simp only [step] at hst
  split at hst <;> first | (cases hst; done) | skip
  obtain ⟨y, e, h1⟩ := SVl_one hs
  simp only [List.cons.injEq, and_true] at e
  split at hst
  · rename_i hm
    simp only [Option.some.injEq, Prod.mk.injEq] at hst
    obtain ⟨rfl, rfl⟩ := hst
    obtain ⟨u, hu⟩ := Option.isSome_iff_exists.1 hs1
    split at h8
    · rename_i el hel
      simp only [beq_iff_eq] at h8
      obtain ⟨z, w', hrun, k1, k2, k3⟩ := sim_convB (P := P) hw hu (isSlice_eq hel) (isInt_eq h8) h1 hm
      exact ⟨_, z, w', _, by simp only [execOp, e]; simp [hrun], .inl rfl, k3, rfl, k1, k2, rfl, fun _ h => .inl h⟩
    · cases h8
  · cases hst

theorem ok_convM (hc : chkOp P o.op xs (.convM) = true) (hev : evs G fr xs = some vals) (hf : FR C fr a) (hG : GR C G) (hw : WR w0 Ws I0 C) (hnew : ¬ C.used g) (hst : step (.convM) vals C.m g d = some (av, us)) : Does P w0 Ws I0 C g o a av us := by
  obtain ⟨dst, op, type, pos, after, guard⟩ := o
  simp only [chkOp] at hc
  split at hc <;> first | (cases hc; done) | skip
  rename_i s t x
  simp only [Bool.and_eq_true, beq_iff_eq] at hc
  obtain ⟨⟨rfl, h8⟩, hc⟩ := hc
  have hs := evs_ok hf hG hc hev
  simp only [List.map_cons, List.map_nil] at hs
  simp only [step] at hst
  split at hst <;> first | (cases hst; done) | skip
  obtain ⟨y, e, h1⟩ := SVl_one hs
  simp only [List.cons.injEq, and_true] at e
  split at hst
  · rename_i l g' n _ g'' ys hm
    split at hst
    · rename_i hcc
      obtain ⟨rfl, hn, h0⟩ := hcc
      simp only [Option.some.injEq, Prod.mk.injEq] at hst
      obtain ⟨rfl, rfl⟩ := hst
      split at h8
      · rename_i el hel
        simp only [beq_iff_eq] at h8
        obtain ⟨w', b, hrun, k1, k2, k3⟩ := sim_convM (P := P) hw (isSlice_eq hel) (isInt_eq h8) h1 hm hn h0
        exact ⟨_, y, w', _, by simp only [execOp, e]; simp [hrun], .inl rfl, k3, rfl, k1, k2, rfl, fun _ h => .inl h⟩
      · cases h8
    · cases hst
  · cases hst

theorem ok_alloc {z : AV} (hc : chkOp P o.op xs (.alloc z) = true) (hev : evs G fr xs = some vals) (hf : FR C fr a) (hG : GR C G) (hw : WR w0 Ws I0 C) (hnew : ¬ C.used g) (hst : step (.alloc z) vals C.m g d = some (av, us)) : Does P w0 Ws I0 C g o a av us := by
  obtain ⟨dst, op, type, pos, after, guard⟩ := o
  simp only [chkOp] at hc
  split at hc <;> first | (cases hc; done) | skip
  rename_i t
  simp only [Bool.and_eq_true] at hc
  obtain ⟨_, hc2⟩ := hc
  obtain ⟨cs, hz, hfl⟩ := cellsEq_eq hc2
  simp only [step] at hst
  split at hst <;> first | (cases hst; done) | skip
  simp only [Option.some.injEq, Prod.mk.injEq] at hst
  obtain ⟨rfl, rfl⟩ := hst
  obtain ⟨y, w', hr, k1, k2, k3⟩ := sim_alloc (P := P) (l := d) hw hnew hz hfl
  exact Does.new (by simp [execOp, hr]) k1 k2 k3

theorem ok_box (hc : chkOp P o.op xs (.box) = true) (hev : evs G fr xs = some vals) (hf : FR C fr a) (hG : GR C G) (hw : WR w0 Ws I0 C) (hnew : ¬ C.used g) (hst : step (.box) vals C.m g d = some (av, us)) : Does P w0 Ws I0 C g o a av us := by
  obtain ⟨dst, op, type, pos, after, guard⟩ := o
  simp only [chkOp] at hc
  split at hc <;> first | (cases hc; done) | skip
  rename_i t x
  have hs := evs_ok hf hG hc hev
  simp only [List.map_cons, List.map_nil] at hs
  simp only [step] at hst
  split at hst <;> first | (cases hst; done) | skip
  obtain ⟨y, e, h1⟩ := SVl_one hs
  simp only [List.cons.injEq, and_true] at e
  split at hst
  · rename_i hso
    simp only [Option.some.injEq, Prod.mk.injEq] at hst
    obtain ⟨rfl, rfl⟩ := hst
    obtain ⟨z, w', hr, k1, k2, k3⟩ := sim_box (P := P) (l := d) (t := t) hw hnew h1 hso
    exact Does.new (by simp [execOp, e, hr]) k1 k2 k3
  · cases hst

theorem ok_build {zs : List AV} {is : List Nat} (hc : chkOp P o.op xs (.build zs is) = true) (hev : evs G fr xs = some vals) (hf : FR C fr a) (hG : GR C G) (hw : WR w0 Ws I0 C) (hnew : ¬ C.used g) (hst : step (.build zs is) vals C.m g d = some (av, us)) : Does P w0 Ws I0 C g o a av us := by
  obtain ⟨dst, op, type, pos, after, guard⟩ := o
  simp only [chkOp] at hc
  split at hc <;> first | (cases hc; done) | skip
  rename_i t ps
  simp only [Bool.and_eq_true, beq_iff_eq] at hc
  obtain ⟨⟨⟨h1, h2⟩, rfl⟩, hc⟩ := hc
  obtain ⟨cs, hz, hfl⟩ := cellsEq_eq h2
  have hs := evs_ok hf hG hc hev
  simp only [step] at hst
  split at hst
  · rename_i hlen
    simp only [Option.map_eq_some_iff, Prod.mk.injEq] at hst
    obtain ⟨r, hr, rfl, rfl⟩ := hst
    have hp := partsOk_zip hlen hs
    split at h1
    · rename_i fs hfs
      obtain ⟨y, hrun, hv⟩ := sim_build (P := P) (isStruct_eq hfs) hz hfl h1 hp hr
      refine Does.quiet hw (y := y) ?_ hv
      simp only [execOp]
      rw [parts_zip ps a.eval, Sem.run_bind, hrun]
      rfl
    · cases h1
  · cases hst

theorem ok_buildA {sz : Nat} {zs : List AV} {is : List Nat} (hc : chkOp P o.op xs (.buildA sz zs is) = true) (hev : evs G fr xs = some vals) (hf : FR C fr a) (hG : GR C G) (hw : WR w0 Ws I0 C) (hnew : ¬ C.used g) (hst : step (.buildA sz zs is) vals C.m g d = some (av, us)) : Does P w0 Ws I0 C g o a av us := by
  obtain ⟨dst, op, type, pos, after, guard⟩ := o
  simp only [chkOp] at hc
  split at hc <;> first | (cases hc; done) | skip
  rename_i t ps
  simp only [Bool.and_eq_true, beq_iff_eq] at hc
  obtain ⟨⟨⟨h1, h2⟩, rfl⟩, hc⟩ := hc
  obtain ⟨cs, hz, hfl⟩ := cellsEq_eq h2
  have hs := evs_ok hf hG hc hev
  simp only [step] at hst
  split at hst
  · rename_i hlen
    simp only [Option.map_eq_some_iff, Prod.mk.injEq] at hst
    obtain ⟨r, hr, rfl, rfl⟩ := hst
    have hp := partsOk_zip hlen hs
    split at h1
    · rename_i n' el hel
      simp only [beq_iff_eq] at h1
      obtain ⟨y, hrun, hv⟩ := sim_buildArr (P := P) (isArr_eq hel) h1 hz hfl hp hr
      refine Does.quiet hw (y := y) ?_ hv
      simp only [execOp]
      rw [parts_zip ps a.eval, Sem.run_bind, hrun]
      rfl
    · cases h1
  · cases hst

theorem ok_bslice {sz n : Nat} {z : AV} {is : List Nat} (hc : chkOp P o.op xs (.bslice sz n z is) = true) (hev : evs G fr xs = some vals) (hf : FR C fr a) (hG : GR C G) (hw : WR w0 Ws I0 C) (hnew : ¬ C.used g) (hst : step (.bslice sz n z is) vals C.m g d = some (av, us)) : Does P w0 Ws I0 C g o a av us := by
  obtain ⟨dst, op, type, pos, after, guard⟩ := o
  simp only [chkOp] at hc
  split at hc <;> first | (cases hc; done) | skip
  rename_i t n' ps
  simp only [Bool.and_eq_true, beq_iff_eq, decide_eq_true_eq] at hc
  obtain ⟨⟨⟨⟨⟨rfl, h1⟩, h0⟩, hbig⟩, rfl⟩, hc⟩ := hc
  have hs := evs_ok hf hG hc hev
  simp only [step] at hst
  split at hst
  · rename_i hlen
    simp only [Option.map_eq_some_iff, Prod.mk.injEq] at hst
    obtain ⟨r, hr, rfl, rfl⟩ := hst
    have hp := partsOk_zip hlen hs
    split at h1
    · rename_i el hel
      simp only [Bool.and_eq_true, beq_iff_eq] at h1
      obtain ⟨⟨h2, h3⟩, h4⟩ := h1
      obtain ⟨cs, hz, hfl⟩ := cellsEq_eq h3
      have hcl : cs.length = sz := by simpa [hfl] using h4
      have hrl : r.length = n' := by rw [buildE_length hr]; simp
      obtain ⟨y, w', hrun, k1, k2, k3⟩ := sim_bslice (P := P) (l := d) hw hnew (isSlice_eq hel) h2 h0 hz hfl hcl hbig hp hr hrl
      refine Does.new ?_ k1 k2 k3
      simp only [execOp]
      rw [parts_zip ps a.eval, Sem.run_bind, hrun]
      rfl
    · cases h1
  · cases hst

theorem ok_load {agg : Bool} {sz : Nat} (hc : chkOp P o.op xs (.load agg sz) = true) (hev : evs G fr xs = some vals) (hf : FR C fr a) (hG : GR C G) (hw : WR w0 Ws I0 C) (hnew : ¬ C.used g) (hst : step (.load agg sz) vals C.m g d = some (av, us)) : Does P w0 Ws I0 C g o a av us := by
  obtain ⟨dst, op, type, pos, after, guard⟩ := o
  simp only [chkOp] at hc
  split at hc <;> first | (cases hc; done) | skip
  rename_i t x
  simp only [Bool.and_eq_true, beq_iff_eq] at hc
  obtain ⟨⟨⟨ha, hsz⟩, hag⟩, hc⟩ := hc
  have hs := evs_ok hf hG hc hev
  simp only [List.map_cons, List.map_nil] at hs
  simp only [step] at hst
  split at hst <;> first | (cases hst; done) | skip
  obtain ⟨y, e, h1⟩ := SVl_one hs
  simp only [List.cons.injEq, and_true] at e
  simp only [Option.map_eq_some_iff, Prod.mk.injEq] at hst
  obtain ⟨r, hr, rfl, rfl⟩ := hst
  obtain ⟨z, hrun, hv⟩ := sim_load (P := P) hw h1 ha hsz (aggOk_eq hag) hr
  exact Does.quiet hw (y := z) (by simp [execOp, e, hrun]) hv

theorem ok_store {agg : Bool} {sz : Nat} (hc : chkOp P o.op xs (.store agg sz) = true) (hev : evs G fr xs = some vals) (hf : FR C fr a) (hG : GR C G) (hw : WR w0 Ws I0 C) (hnew : ¬ C.used g) (hst : step (.store agg sz) vals C.m g d = some (av, us)) : Does P w0 Ws I0 C g o a av us := by
  obtain ⟨dst, op, type, pos, after, guard⟩ := o
  simp only [chkOp] at hc
  split at hc <;> first | (cases hc; done) | skip
  rename_i t xo yo
  simp only [Bool.and_eq_true, beq_iff_eq] at hc
  obtain ⟨hsz, hc⟩ := hc
  have hs := evs_ok hf hG hc hev
  simp only [List.map_cons, List.map_nil] at hs
  simp only [step] at hst
  split at hst <;> first | (cases hst; done) | skip
  obtain ⟨y, y', e, h1, h2⟩ := SVl_two hs
  simp only [List.cons.injEq, and_true] at e
  obtain ⟨e1, e2⟩ := e
  simp only [Option.map_eq_some_iff, Prod.mk.injEq] at hst
  obtain ⟨⟨l, c'⟩, hr, rfl, rfl⟩ := hst
  obtain ⟨w', hrun, k1, k2⟩ := sim_store (P := P) hw h1 h2 hsz hr
  exact ⟨_, undef, w', _, by simp only [execOp, e1, e2]; simp [hrun], .inr ⟨rfl, rfl⟩, trivial, rfl, k1, k2, rfl, fun _ h => .inl h⟩

theorem ok_nilc (hc : chkOp P o.op xs (.nilc) = true) (hev : evs G fr xs = some vals) (hf : FR C fr a) (hG : GR C G) (hw : WR w0 Ws I0 C) (hnew : ¬ C.used g) (hst : step (.nilc) vals C.m g d = some (av, us)) : Does P w0 Ws I0 C g o a av us := by
  obtain ⟨dst, op, type, pos, after, guard⟩ := o
  simp only [chkOp] at hc
  split at hc <;> first | (cases hc; done) | skip
  rename_i x
  have hs := evs_ok hf hG hc hev
  simp only [List.map_cons, List.map_nil] at hs
  simp only [step] at hst
  split at hst <;> first | (cases hst; done) | skip
  obtain ⟨y, e, h1⟩ := SVl_one hs
  simp only [List.cons.injEq, and_true] at e
  split at hst
  · rename_i hq
    simp only [Option.some.injEq, Prod.mk.injEq] at hst
    obtain ⟨rfl, rfl⟩ := hst
    obtain ⟨ad, rfl⟩ := sim_nilCheck h1 hq
    exact Does.quiet hw (y := .pointer (some ad)) (by simp [execOp, e]) h1
  · cases hst

theorem ok_faddr {fo sz : Nat} {agg : Bool} (hc : chkOp P o.op xs (.faddr fo sz agg) = true) (hev : evs G fr xs = some vals) (hf : FR C fr a) (hG : GR C G) (hw : WR w0 Ws I0 C) (hnew : ¬ C.used g) (hst : step (.faddr fo sz agg) vals C.m g d = some (av, us)) : Does P w0 Ws I0 C g o a av us := by
  obtain ⟨dst, op, type, pos, after, guard⟩ := o
  simp only [chkOp] at hc
  split at hc <;> first | (cases hc; done) | skip
  rename_i s x k
  simp only [Bool.and_eq_true] at hc
  obtain ⟨hfd, hc⟩ := hc
  have hs := evs_ok hf hG hc hev
  simp only [List.map_cons, List.map_nil] at hs
  simp only [step] at hst
  split at hst <;> first | (cases hst; done) | skip
  obtain ⟨y, e, h1⟩ := SVl_one hs
  simp only [List.cons.injEq, and_true] at e
  simp only [Option.map_eq_some_iff, Prod.mk.injEq] at hst
  obtain ⟨r, hr, rfl, rfl⟩ := hst
  split at hfd
  · rename_i f hf'
    simp only [Bool.and_eq_true, beq_iff_eq, decide_eq_true_eq] at hfd
    obtain ⟨⟨rfl, hsz⟩, hne⟩ := hfd
    obtain ⟨fs, hfs, hk⟩ := Option.bind_eq_some_iff.1 hf'
    obtain ⟨z, hrun, hv⟩ := sim_faddr (P := P) h1 (isStruct_eq hfs) hk hsz hne hr
    exact Does.quiet hw (y := z) (by simp [execOp, e, hrun]) hv
  · cases hfd

theorem ok_field {sz off : Nat} {agg : Bool} (hc : chkOp P o.op xs (.field agg sz off) = true) (hev : evs G fr xs = some vals) (hf : FR C fr a) (hG : GR C G) (hw : WR w0 Ws I0 C) (hnew : ¬ C.used g) (hst : step (.field agg sz off) vals C.m g d = some (av, us)) : Does P w0 Ws I0 C g o a av us := by
  obtain ⟨dst, op, type, pos, after, guard⟩ := o
  simp only [chkOp] at hc
  split at hc <;> first | (cases hc; done) | skip
  rename_i s x k
  simp only [Bool.and_eq_true] at hc
  obtain ⟨hfd, hc⟩ := hc
  have hs := evs_ok hf hG hc hev
  simp only [List.map_cons, List.map_nil] at hs
  simp only [step] at hst
  split at hst <;> first | (cases hst; done) | skip
  obtain ⟨y, e, h1⟩ := SVl_one hs
  simp only [List.cons.injEq, and_true] at e
  simp only [Option.map_eq_some_iff, Prod.mk.injEq] at hst
  obtain ⟨r, hr, rfl, rfl⟩ := hst
  split at hfd
  · rename_i f hf'
    simp only [Bool.and_eq_true, beq_iff_eq] at hfd
    obtain ⟨⟨⟨rfl, hsz⟩, ha⟩, hag⟩ := hfd
    obtain ⟨fs, hfs, hk⟩ := Option.bind_eq_some_iff.1 hf'
    obtain ⟨z, hrun, hv⟩ := sim_field (P := P) h1 (isStruct_eq hfs) hk ha hsz (aggOk_eq hag) hr
    exact Does.quiet hw (y := z) (by simp [execOp, e, hrun]) hv
  · cases hfd

theorem ok_iaddr {sz : Nat} (hc : chkOp P o.op xs (.iaddr sz) = true) (hev : evs G fr xs = some vals) (hf : FR C fr a) (hG : GR C G) (hw : WR w0 Ws I0 C) (hnew : ¬ C.used g) (hst : step (.iaddr sz) vals C.m g d = some (av, us)) : Does P w0 Ws I0 C g o a av us := by
  obtain ⟨dst, op, type, pos, after, guard⟩ := o
  simp only [chkOp] at hc
  split at hc <;> first | (cases hc; done) | skip
  rename_i t x i
  simp only [Bool.and_eq_true] at hc
  obtain ⟨hty, hc⟩ := hc
  have hs := evs_ok hf hG hc hev
  simp only [List.map_cons, List.map_nil] at hs
  simp only [step] at hst
  split at hst <;> first | (cases hst; done) | skip
  rename_i xx kk ii
  obtain ⟨y, y', e, h1, h2⟩ := SVl_two hs
  simp only [List.cons.injEq, and_true] at e
  obtain ⟨e1, e2⟩ := e
  simp only [Option.map_eq_some_iff, Prod.mk.injEq] at hst
  obtain ⟨r, hr, rfl, rfl⟩ := hst
  have b2 := SV_v h2
  subst b2
  split at hty
  · rename_i el hel
    simp only [beq_iff_eq] at hty
    obtain ⟨z, hrun, hv⟩ := sim_iaddr (P := P) (k := kk) h1 (isSlice_eq hel) hty hr
    exact Does.quiet hw (y := z) (by simp only [execOp, e1, e2]; simp [hrun]) hv
  · cases hty

theorem ok_iaddrArr {N sz : Nat} {agg : Bool} (hc : chkOp P o.op xs (.iaddrArr N sz agg) = true) (hev : evs G fr xs = some vals) (hf : FR C fr a) (hG : GR C G) (hw : WR w0 Ws I0 C) (hnew : ¬ C.used g) (hst : step (.iaddrArr N sz agg) vals C.m g d = some (av, us)) : Does P w0 Ws I0 C g o a av us := by
  obtain ⟨dst, op, type, pos, after, guard⟩ := o
  simp only [chkOp] at hc
  split at hc <;> first | (cases hc; done) | skip
  rename_i t x i
  simp only [Bool.and_eq_true] at hc
  obtain ⟨hty, hc⟩ := hc
  have hs := evs_ok hf hG hc hev
  simp only [List.map_cons, List.map_nil] at hs
  simp only [step] at hst
  split at hst <;> first | (cases hst; done) | skip
  rename_i xx kk ii
  obtain ⟨y, y', e, h1, h2⟩ := SVl_two hs
  simp only [List.cons.injEq, and_true] at e
  obtain ⟨e1, e2⟩ := e
  simp only [Option.map_eq_some_iff, Prod.mk.injEq] at hst
  obtain ⟨r, hr, rfl, rfl⟩ := hst
  have b2 := SV_v h2
  subst b2
  split at hty
  · rename_i n el hel
    simp only [Bool.and_eq_true, beq_iff_eq] at hty
    obtain ⟨rfl, hsz⟩ := hty
    obtain ⟨z, hrun, hv⟩ := sim_iaddrArr (P := P) (k := kk) h1 (isArr_eq hel) hsz hr
    exact Does.quiet hw (y := z) (by simp only [execOp, e1, e2]; simp [hrun]) hv
  · cases hty

theorem ok_idx {n sz : Nat} {agg : Bool} (hc : chkOp P o.op xs (.idx agg n sz) = true) (hev : evs G fr xs = some vals) (hf : FR C fr a) (hG : GR C G) (hw : WR w0 Ws I0 C) (hnew : ¬ C.used g) (hst : step (.idx agg n sz) vals C.m g d = some (av, us)) : Does P w0 Ws I0 C g o a av us := by
  obtain ⟨dst, op, type, pos, after, guard⟩ := o
  simp only [chkOp] at hc
  split at hc <;> first | (cases hc; done) | skip
  rename_i t x i
  simp only [Bool.and_eq_true] at hc
  obtain ⟨hty, hc⟩ := hc
  have hs := evs_ok hf hG hc hev
  simp only [List.map_cons, List.map_nil] at hs
  simp only [step] at hst
  split at hst <;> first | (cases hst; done) | skip
  rename_i xx kk ii
  obtain ⟨y, y', e, h1, h2⟩ := SVl_two hs
  simp only [List.cons.injEq, and_true] at e
  obtain ⟨e1, e2⟩ := e
  simp only [Option.map_eq_some_iff, Prod.mk.injEq] at hst
  obtain ⟨r, hr, rfl, rfl⟩ := hst
  have b2 := SV_v h2
  subst b2
  split at hty
  · rename_i n' el hel
    simp only [Bool.and_eq_true, beq_iff_eq] at hty
    obtain ⟨⟨⟨rfl, hsz⟩, ha⟩, hag⟩ := hty
    obtain ⟨z, hrun, hv⟩ := sim_index (P := P) (k := kk) h1 (isArr_eq hel) ha hsz (aggOk_eq hag) hr
    exact Does.quiet hw (y := z) (by simp only [execOp, e1, e2]; simp [hrun]) hv
  · cases hty

theorem ok_idxS (hc : chkOp P o.op xs (.idxS) = true) (hev : evs G fr xs = some vals) (hf : FR C fr a) (hG : GR C G) (hw : WR w0 Ws I0 C) (hnew : ¬ C.used g) (hst : step (.idxS) vals C.m g d = some (av, us)) : Does P w0 Ws I0 C g o a av us := by
  obtain ⟨dst, op, type, pos, after, guard⟩ := o
  simp only [chkOp] at hc
  split at hc <;> first | (cases hc; done) | skip
  rename_i t x i
  simp only [Bool.and_eq_true] at hc
  obtain ⟨hty, hc⟩ := hc
  have hs := evs_ok hf hG hc hev
  simp only [List.map_cons, List.map_nil] at hs
  simp only [step] at hst
  split at hst <;> first | (cases hst; done) | skip
  obtain ⟨y, y', e, h1, h2⟩ := SVl_two hs
  simp only [List.cons.injEq, and_true] at e
  obtain ⟨e1, e2⟩ := e
  split at hst
  · rename_i s k i' hi
    simp only [Option.map_eq_some_iff, Prod.mk.injEq] at hst
    obtain ⟨b, hb, rfl, rfl⟩ := hst
    have b1 := SV_v h1
    have b2 := SV_v h2
    subst b1 b2
    have hb' : s[i'.toNat]? = some b := by rw [bytes_get?]; exact hb
    exact Does.quiet hw (y := .int .u8 b.toNat) (by simp only [execOp, e1, e2]; simp [Instr.index, asIntOf, run_underlying (isStr_eq hty), hi, hb']) (SV_mk rfl)
  · cases hst

theorem ok_slice {sz : Nat} {l h : Bool} (hc : chkOp P o.op xs (.slice sz l h) = true) (hev : evs G fr xs = some vals) (hf : FR C fr a) (hG : GR C G) (hw : WR w0 Ws I0 C) (hnew : ¬ C.used g) (hst : step (.slice sz l h) vals C.m g d = some (av, us)) : Does P w0 Ws I0 C g o a av us := by
  obtain ⟨dst, op, type, pos, after, guard⟩ := o
  simp only [chkOp] at hc
  split at hc <;> first | (cases hc; done) | skip
  rename_i t x lo hi
  simp only [Bool.and_eq_true, beq_iff_eq] at hc
  obtain ⟨⟨⟨hty, hlo⟩, hhi⟩, hc⟩ := hc
  have hs := evs_ok hf hG hc hev
  simp only [List.map_cons, List.map_nil] at hs
  simp only [step] at hst
  split at hst <;> first | (cases hst; done) | skip
  simp only [SVl] at hs
  obtain ⟨y, r, e, h1, hr⟩ := hs
  simp only [List.cons.injEq] at e
  obtain ⟨e1, rfl⟩ := e
  simp only [Option.bind_eq_some_iff, Option.map_eq_some_iff, Prod.mk.injEq] at hst
  obtain ⟨q, hq, r', hr', rfl, rfl⟩ := hst
  obtain ⟨k1, k2, eb1, eb2⟩ := bounds_ok (a := a) hlo hhi hq hr
  split at hty
  · rename_i el hel
    simp only [beq_iff_eq] at hty
    obtain ⟨z, hrun, hv⟩ := sim_slice (P := P) (k1 := k1) (k2 := k2) h1 (isSlice_eq hel) hty hr'
    exact Does.quiet hw (y := z) (by simp only [execOp, e1, eb1, eb2]; simp [hrun]) hv
  · cases hty

theorem ok_sliceArr {N sz : Nat} {l h : Bool} (hc : chkOp P o.op xs (.sliceArr N sz l h) = true) (hev : evs G fr xs = some vals) (hf : FR C fr a) (hG : GR C G) (hw : WR w0 Ws I0 C) (hnew : ¬ C.used g) (hst : step (.sliceArr N sz l h) vals C.m g d = some (av, us)) : Does P w0 Ws I0 C g o a av us := by
  obtain ⟨dst, op, type, pos, after, guard⟩ := o
  simp only [chkOp] at hc
  split at hc <;> first | (cases hc; done) | skip
  rename_i t x lo hi
  simp only [Bool.and_eq_true, beq_iff_eq] at hc
  obtain ⟨⟨⟨hty, hlo⟩, hhi⟩, hc⟩ := hc
  have hs := evs_ok hf hG hc hev
  simp only [List.map_cons, List.map_nil] at hs
  simp only [step] at hst
  split at hst <;> first | (cases hst; done) | skip
  simp only [SVl] at hs
  obtain ⟨y, r, e, h1, hr⟩ := hs
  simp only [List.cons.injEq] at e
  obtain ⟨e1, rfl⟩ := e
  simp only [Option.bind_eq_some_iff, Option.map_eq_some_iff, Prod.mk.injEq] at hst
  obtain ⟨q, hq, r', hr', rfl, rfl⟩ := hst
  obtain ⟨k1, k2, eb1, eb2⟩ := bounds_ok (a := a) hlo hhi hq hr
  split at hty
  · rename_i n el hel
    simp only [Bool.and_eq_true, beq_iff_eq] at hty
    obtain ⟨rfl, hsz⟩ := hty
    obtain ⟨z, hrun, hv⟩ := sim_sliceArr (P := P) (k1 := k1) (k2 := k2) h1 (isArr_eq hel) hsz hr'
    exact Does.quiet hw (y := z) (by simp only [execOp, e1, eb1, eb2]; simp [hrun]) hv
  · cases hty

theorem ok_sliceStr {l h : Bool} (hc : chkOp P o.op xs (.sliceStr l h) = true) (hev : evs G fr xs = some vals) (hf : FR C fr a) (hG : GR C G) (hw : WR w0 Ws I0 C) (hnew : ¬ C.used g) (hst : step (.sliceStr l h) vals C.m g d = some (av, us)) : Does P w0 Ws I0 C g o a av us := by
  obtain ⟨dst, op, type, pos, after, guard⟩ := o
  simp only [chkOp] at hc
  split at hc <;> first | (cases hc; done) | skip
  rename_i t x lo hi
  simp only [Bool.and_eq_true, beq_iff_eq] at hc
  obtain ⟨⟨⟨hty, hlo⟩, hhi⟩, hc⟩ := hc
  have hs := evs_ok hf hG hc hev
  simp only [List.map_cons, List.map_nil] at hs
  simp only [step] at hst
  split at hst <;> first | (cases hst; done) | skip
  simp only [SVl] at hs
  obtain ⟨y, r, e, h1, hr⟩ := hs
  simp only [List.cons.injEq] at e
  obtain ⟨e1, rfl⟩ := e
  simp only [Option.bind_eq_some_iff, Option.map_eq_some_iff, Prod.mk.injEq] at hst
  obtain ⟨q, hq, b, hb, rfl, rfl⟩ := hst
  obtain ⟨k1, k2, eb1, eb2⟩ := bounds_ok (a := a) hlo hhi hq hr
  obtain ⟨z, hrun, hv⟩ := sim_sliceStr (P := P) (k1 := k1) (k2 := k2) h1 (isStr_eq hty) hb
  exact Does.quiet hw (y := z) (by simp only [execOp, e1, eb1, eb2]; simp [hrun]) hv

theorem ok_slice0 {sz : Nat} (hc : chkOp P o.op xs (.slice0 sz) = true) (hev : evs G fr xs = some vals) (hf : FR C fr a) (hG : GR C G) (hw : WR w0 Ws I0 C) (hnew : ¬ C.used g) (hst : step (.slice0 sz) vals C.m g d = some (av, us)) : Does P w0 Ws I0 C g o a av us := by
  obtain ⟨dst, op, type, pos, after, guard⟩ := o
  simp only [chkOp] at hc
  split at hc <;> first | (cases hc; done) | skip
  rename_i t x k h k2 h2
  simp only [Bool.and_eq_true, beq_iff_eq] at hc
  obtain ⟨⟨⟨hty, rfl⟩, rfl⟩, hc⟩ := hc
  have hs := evs_ok hf hG hc hev
  simp only [List.map_cons, List.map_nil] at hs
  simp only [step] at hst
  split at hst <;> first | (cases hst; done) | skip
  obtain ⟨y, e, h1⟩ := SVl_one hs
  simp only [List.cons.injEq, and_true] at e
  split at hst
  · rename_i n hn
    simp only [Option.some.injEq, Prod.mk.injEq] at hst
    obtain ⟨rfl, rfl⟩ := hst
    split at hty
    · rename_i el hel
      simp only [beq_iff_eq] at hty
      obtain ⟨ao, cap, rfl⟩ := slice_form h1 hn
      · have hr := hw.regen (l := d) (g := g) (c' := .rows g sz []) (w' := C.w) (row := none) (B := none) (World.grownBy.refl C.w none) rfl hnew (.inl rfl) (.inl rfl)
        have hv : SV (newAt C C.w d g none (.rows g sz [])) (.row d sz g 0 0) (.slice ao 0 0) := by
          show V _ (.row d sz g 0 0) [_]
          simp only [V]
          refine ⟨ao, 0, rfl, by simp, by simp [maxLen], fun h => by simp at h, .inr rfl, fun xs' _ => ?_⟩
          unfold RowVal
          simp only [newAt, upd_same]
          exact ⟨trivial, trivial, ao, rfl⟩
        refine Does.new ?_ hr.1 (hr.2 (.inl ⟨by simp, rfl⟩)) hv
        simp only [execOp, Option.map_none, Option.map_some, e]
        simp [Instr.sliceAt, Instr.slice, run_underlying (isSlice_eq hel), Instr.sliceBounds, Instr.sliceBound, asIntOf, run_tsz hty, Act.eval]
    · cases hty
  · cases hst

theorem ok_len (hc : chkOp P o.op xs (.len) = true) (hev : evs G fr xs = some vals) (hf : FR C fr a) (hG : GR C G) (hw : WR w0 Ws I0 C) (hnew : ¬ C.used g) (hst : step (.len) vals C.m g d = some (av, us)) : Does P w0 Ws I0 C g o a av us := by
  obtain ⟨dst, op, type, pos, after, guard⟩ := o
  simp only [chkOp] at hc
  split at hc <;> first | (cases hc; done) | skip
  rename_i args argTypes
  simp only [Bool.and_eq_true] at hc
  obtain ⟨hty, hc⟩ := hc
  have hs := evs_ok hf hG hc hev
  simp only [step] at hst
  split at hst <;> first | (cases hst; done) | skip
  obtain ⟨y, e, h1⟩ := SVl_one hs
  simp only [Option.map_eq_some_iff, Prod.mk.injEq] at hst
  obtain ⟨n, hn, rfl, rfl⟩ := hst
  have hargs : args.map a.eval = #[y] := Array.ext' (by simpa using e)
  split at hty
  · rename_i t ht
    refine Does.quiet hw (y := .int .i64 n) ?_ (SV_mk rfl)
    simp only [execOp, resolve, invoke, builtin, Sem.run_bind, Sem.run_pure, Result.andThen_ok, hargs]
    obtain ⟨el, hel⟩ := Option.isSome_iff_exists.1 hty
    obtain ⟨ao, cap, rfl⟩ := slice_form h1 hn
    simp [Builtin.len_, ht, run_underlying (isSlice_eq hel), goInt]
  · cases hty

theorem ok_lenS (hc : chkOp P o.op xs (.lenS) = true) (hev : evs G fr xs = some vals) (hf : FR C fr a) (hG : GR C G) (hw : WR w0 Ws I0 C) (hnew : ¬ C.used g) (hst : step (.lenS) vals C.m g d = some (av, us)) : Does P w0 Ws I0 C g o a av us := by
  obtain ⟨dst, op, type, pos, after, guard⟩ := o
  simp only [chkOp] at hc
  split at hc <;> first | (cases hc; done) | skip
  rename_i args argTypes
  simp only [Bool.and_eq_true] at hc
  obtain ⟨hty, hc⟩ := hc
  have hs := evs_ok hf hG hc hev
  simp only [step] at hst
  split at hst <;> first | (cases hst; done) | skip
  obtain ⟨y, e, h1⟩ := SVl_one hs
  simp only [Option.some.injEq, Prod.mk.injEq] at hst
  obtain ⟨rfl, rfl⟩ := hst
  have hargs : args.map a.eval = #[y] := Array.ext' (by simpa using e)
  split at hty
  · rename_i t ht
    have b1 := SV_v h1
    subst b1
    refine Does.quiet hw (y := .int .i64 _) ?_ (SV_mk rfl)
    simp only [execOp, resolve, invoke, builtin, Sem.run_bind, Sem.run_pure, Result.andThen_ok, hargs]
    simp [Builtin.len_, ht, run_underlying (isStr_eq hty), goInt]
  · cases hty

theorem ok_app {sz bytes : Nat} (hc : chkOp P o.op xs (.app sz bytes) = true) (hev : evs G fr xs = some vals) (hf : FR C fr a) (hG : GR C G) (hw : WR w0 Ws I0 C) (hnew : ¬ C.used g) (hst : step (.app sz bytes) vals C.m g d = some (av, us)) : Does P w0 Ws I0 C g o a av us := by
  obtain ⟨dst, op, type, pos, after, guard⟩ := o
  simp only [chkOp] at hc
  split at hc <;> first | (cases hc; done) | skip
  rename_i args argTypes
  simp only [Bool.and_eq_true] at hc
  obtain ⟨hty, hc⟩ := hc
  have hs := evs_ok hf hG hc hev
  simp only [step] at hst
  split at hst <;> first | (cases hst; done) | skip
  obtain ⟨y, y', e, h1, h2⟩ := SVl_two hs
  simp only [Option.bind_eq_some_iff] at hst
  obtain ⟨⟨l, zs⟩, hd, ys, hy, hst⟩ := hst
  split at hst
  · rename_i hbd
    simp only [Option.some.injEq, Prod.mk.injEq] at hst
    obtain ⟨rfl, rfl⟩ := hst
    have hargs : args.map a.eval = #[y, y'] := Array.ext' (by simpa using e)
    split at hty
    · rename_i t t' htt
      simp only [Bool.and_eq_true] at hty
      obtain ⟨el, hel⟩ := elemOkB_eq hty.1
      obtain ⟨el', hel'⟩ := Option.isSome_iff_exists.1 hty.2
      obtain ⟨ao, cap, rfl, hdest⟩ := dest_ok hw h1 hd
      obtain ⟨ao', cap', news, rfl, q1, q2, q3, q4⟩ := src_ok hw h2 hy
      have hsrc := src_of (P := P) (tx := t') (ao := ao') (cap := cap') (w := C.w) (isSlice_eq hel') q3 (q4.imp id fun ⟨b, o, h1, h2, _⟩ => ⟨b, o, h1, h2⟩)
      obtain ⟨z, w', B, hrun, k1, k2, k3⟩ := sim_append (ty := type) (t := t) hw hnew hel hdest (.inl hsrc) q3 hbd.1 hbd.2
      have hat : argTypes = #[t, t'] := Array.ext' (by simpa using htt)
      refine Does.new ?_ k1 k2 k3
      simp only [execOp, resolve, invoke, builtin, Sem.run_bind, Sem.run_pure, Result.andThen_ok, hargs, hat, hrun]
    · cases hty
  · cases hst

theorem ok_appS {bytes : Nat} (hc : chkOp P o.op xs (.appS bytes) = true) (hev : evs G fr xs = some vals) (hf : FR C fr a) (hG : GR C G) (hw : WR w0 Ws I0 C) (hnew : ¬ C.used g) (hst : step (.appS bytes) vals C.m g d = some (av, us)) : Does P w0 Ws I0 C g o a av us := by
  obtain ⟨dst, op, type, pos, after, guard⟩ := o
  simp only [chkOp] at hc
  split at hc <;> first | (cases hc; done) | skip
  rename_i args argTypes
  simp only [Bool.and_eq_true] at hc
  obtain ⟨hty, hc⟩ := hc
  have hs := evs_ok hf hG hc hev
  simp only [step] at hst
  split at hst <;> first | (cases hst; done) | skip
  rename_i aa ss
  obtain ⟨y, y', e, h1, h2⟩ := SVl_two hs
  simp only [Option.bind_eq_some_iff] at hst
  obtain ⟨⟨l, zs⟩, hd, hst⟩ := hst
  split at hst
  · rename_i hbd
    simp only [Option.some.injEq, Prod.mk.injEq] at hst
    obtain ⟨rfl, rfl⟩ := hst
    have hargs : args.map a.eval = #[y, y'] := Array.ext' (by simpa using e)
    split at hty
    · rename_i t t' htt
      simp only [Bool.and_eq_true] at hty
      obtain ⟨el, hel⟩ := elemOkB_eq hty.1
      obtain ⟨ao, cap, rfl, hdest⟩ := dest_ok hw h1 hd
      have b2 := SV_v h2
      subst b2
      have hlen : (bytesAV ss).length = ss.size := by simp [bytesAV]
      have hsrc : Src P 1 t' (.string ss) (bytesAV ss).length (byteCells ss) C.w := by rw [hlen]; exact Src.ofString C.w (isStr_eq hty.2) ss
      obtain ⟨z, w', B, hrun, k1, k2, k3⟩ := sim_append (ty := type) (t := t) hw hnew hel hdest (.inl hsrc) (Es_bytes ss) hbd.1 hbd.2
      have hat : argTypes = #[t, t'] := Array.ext' (by simpa using htt)
      refine Does.new ?_ k1 k2 k3
      simp only [execOp, resolve, invoke, builtin, Sem.run_bind, Sem.run_pure, Result.andThen_ok, hargs, hat, hrun]
    · cases hty
  · cases hst

theorem ok_appM {sz bytes : Nat} {z : AV} (hc : chkOp P o.op xs (.appM sz bytes z) = true) (hev : evs G fr xs = some vals) (hf : FR C fr a) (hG : GR C G) (hw : WR w0 Ws I0 C) (hnew : ¬ C.used g) (hst : step (.appM sz bytes z) vals C.m g d = some (av, us)) : Does P w0 Ws I0 C g o a av us := by
  obtain ⟨dst, op, type, pos, after, guard⟩ := o
  simp only [chkOp] at hc
  split at hc <;> first | (cases hc; done) | skip
  rename_i args argTypes
  simp only [Bool.and_eq_true] at hc
  obtain ⟨hty, hc⟩ := hc
  have hs := evs_ok hf hG hc hev
  simp only [step] at hst
  split at hst <;> first | (cases hst; done) | skip
  rename_i aa kk ki
  obtain ⟨y, y', e, h1, h2⟩ := SVl_two hs
  split at hst
  · rename_i hk
    obtain ⟨hk0, hkm, hkb⟩ := hk
    simp only [Option.bind_eq_some_iff] at hst
    obtain ⟨⟨l, zs⟩, hd, hst⟩ := hst
    split at hst
    · rename_i hbd
      simp only [Option.some.injEq, Prod.mk.injEq] at hst
      obtain ⟨rfl, rfl⟩ := hst
      have hargs : args.map a.eval = #[y, y'] := Array.ext' (by simpa using e)
      split at hty
      · rename_i t t' htt
        simp only [Bool.and_eq_true] at hty
        obtain ⟨⟨hel0, hint⟩, hzz⟩ := hty
        obtain ⟨el, hel⟩ := elemOkB_eq hel0
        obtain ⟨ik, hik⟩ := Option.isSome_iff_exists.1 hint
        split at hzz
        · rename_i el' hsl
          simp only [Bool.and_eq_true, beq_iff_eq] at hzz
          obtain ⟨hz1, hz2⟩ := hzz
          have hee : el' = el := by
            have h3 := isSlice_eq hsl
            rw [hel.ht] at h3
            simpa using h3.symm
          subst hee
          obtain ⟨cs, hcs1, hcs2⟩ := cellsEq_eq hz1
          have hcl : cs.length = sz := by simpa [hcs2] using hz2
          obtain ⟨ao, cap, rfl, hdest⟩ := dest_ok hw h1 hd
          have b2 := SV_v h2
          subst b2
          obtain ⟨n, rfl⟩ : ∃ n : Nat, ki = n := ⟨ki.toNat, by omega⟩
          simp only [Int.toNat_natCast] at *
          have hE : Es C sz (List.replicate n z) (Builtin.zeroCells cs.toArray n).toList := by
            obtain ⟨inf, zv, hi, hiz, hzc⟩ := tzero_eq hcs1
            have := run_zeroCells (C := C) (z := zv) (av := z) (sz := sz) (by rw [hzc]; exact hcs2) (by rw [← hcl, ← hzc]; simp) hel.h0 n
            rwa [show zv.cells = cs.toArray by rw [← hzc]] at this
          have hwr : IntKind.i64.wrap (n : Int) = (n : Int) := by rw [IntKind.wrap_i64]; unfold maxLen at hkm; omega
          have hsrc : Mk0 P sz t' el' (.int kk n) (List.replicate n z).length (Builtin.zeroCells cs.toArray n).toList := by
            rw [List.length_replicate]
            exact ⟨⟨ik, isInt_eq hik⟩, ⟨kk, n, rfl, hwr⟩, ⟨bytes, hel.hb, hkb⟩, ⟨cs, hcs1, hcl, rfl, hel.h0⟩, by have := Es_length hE; rwa [List.length_replicate] at this, Es_oneCell _ _ _ hE⟩
          obtain ⟨zz, w', B, hrun, k1, k2, k3⟩ := sim_append (ty := type) (t := t) hw hnew hel hdest (.inr hsrc) hE (by rw [List.length_replicate]; exact hbd.1) (by rw [List.length_replicate]; exact hbd.2)
          have hat : argTypes = #[t, t'] := Array.ext' (by simpa using htt)
          rw [List.length_replicate] at k3
          refine Does.new ?_ k1 k2 k3
          simp only [execOp, resolve, invoke, builtin, Sem.run_bind, Sem.run_pure, Result.andThen_ok, hargs, hat, hrun]
        · cases hzz
      · cases hty
    · cases hst
  · cases hst

theorem ok_copy {sz : Nat} (hc : chkOp P o.op xs (.copy sz) = true) (hev : evs G fr xs = some vals) (hf : FR C fr a) (hG : GR C G) (hw : WR w0 Ws I0 C) (hnew : ¬ C.used g) (hst : step (.copy sz) vals C.m g d = some (av, us)) : Does P w0 Ws I0 C g o a av us := by
  obtain ⟨dst, op, type, pos, after, guard⟩ := o
  simp only [chkOp] at hc
  split at hc <;> first | (cases hc; done) | skip
  rename_i args argTypes
  simp only [Bool.and_eq_true] at hc
  obtain ⟨hty, hc⟩ := hc
  have hs := evs_ok hf hG hc hev
  simp only [step] at hst
  split at hst <;> first | (cases hst; done) | skip
  obtain ⟨y, y', e, h1, h2⟩ := SVl_two hs
  simp only [Option.bind_eq_some_iff, Option.map_eq_some_iff, Prod.mk.injEq] at hst
  obtain ⟨ys, hy, ⟨l, c'⟩, hov, rfl, rfl⟩ := hst
  have hargs : args.map a.eval = #[y, y'] := Array.ext' (by simpa using e)
  split at hty
  · rename_i t t' htt
    split at hty
    · rename_i el hel
      simp only [beq_iff_eq] at hty
      obtain ⟨w', hrun, k1, k2⟩ := sim_copy (P := P) (ty := type) (sT := t') hw (isSlice_eq hel) hty h1 h2 hy hov
      have hat : argTypes = #[t, t'] := Array.ext' (by simpa using htt)
      exact ⟨_, _, w', _, by simp only [execOp, resolve, invoke, builtin, Sem.run_bind, Sem.run_pure, Result.andThen_ok, hargs, hat, hrun], .inl rfl, SV_mk rfl, rfl, k1, k2, rfl, fun _ h => .inl h⟩
    · cases hty
  · cases hty

theorem ok_clear {sz : Nat} {z : AV} (hc : chkOp P o.op xs (.clear sz z) = true) (hev : evs G fr xs = some vals) (hf : FR C fr a) (hG : GR C G) (hw : WR w0 Ws I0 C) (hnew : ¬ C.used g) (hst : step (.clear sz z) vals C.m g d = some (av, us)) : Does P w0 Ws I0 C g o a av us := by
  obtain ⟨dst, op, type, pos, after, guard⟩ := o
  simp only [chkOp] at hc
  split at hc <;> first | (cases hc; done) | skip
  rename_i args argTypes
  simp only [Bool.and_eq_true, decide_eq_true_eq] at hc
  obtain ⟨⟨hty, h0⟩, hc⟩ := hc
  have hs := evs_ok hf hG hc hev
  simp only [step] at hst
  split at hst <;> first | (cases hst; done) | skip
  obtain ⟨y, e, h1⟩ := SVl_one hs
  simp only [Option.map_eq_some_iff, Prod.mk.injEq] at hst
  obtain ⟨⟨l, c'⟩, hov, rfl, rfl⟩ := hst
  have hargs : args.map a.eval = #[y] := Array.ext' (by simpa using e)
  split at hty
  · rename_i t htt
    split at hty
    · rename_i el hel
      simp only [Bool.and_eq_true, beq_iff_eq] at hty
      obtain ⟨cs, hz, hfl⟩ := cellsEq_eq hty.1
      have hcl : cs.length = sz := by simpa [hfl] using hty.2
      obtain ⟨w', hrun, k1, k2⟩ := sim_clear (P := P) (ty := type) hw (isSlice_eq hel) hz hfl hcl h0 h1 hov
      have hat : argTypes = #[t] := Array.ext' (by simpa using htt)
      exact ⟨_, .tuple #[], w', _, by simp only [execOp, resolve, invoke, builtin, Sem.run_bind, Sem.run_pure, Result.andThen_ok, hargs, hat, hrun], .inl rfl, trivial, rfl, k1, k2, rfl, fun _ h => .inl h⟩
    · cases hty
  · cases hty

theorem ok_mk {sz bytes : Nat} {z : AV} (hc : chkOp P o.op xs (.mk sz bytes z) = true) (hev : evs G fr xs = some vals) (hf : FR C fr a) (hG : GR C G) (hw : WR w0 Ws I0 C) (hnew : ¬ C.used g) (hst : step (.mk sz bytes z) vals C.m g d = some (av, us)) : Does P w0 Ws I0 C g o a av us := by
  obtain ⟨dst, op, type, pos, after, guard⟩ := o
  simp only [chkOp] at hc
  split at hc <;> first | (cases hc; done) | skip
  rename_i t lo co
  simp only [Bool.and_eq_true, decide_eq_true_eq] at hc
  obtain ⟨⟨hty, h0⟩, hc⟩ := hc
  have hs := evs_ok hf hG hc hev
  simp only [List.map_cons, List.map_nil] at hs
  simp only [step] at hst
  split at hst <;> first | (cases hst; done) | skip
  rename_i kk _ kk2 _
  obtain ⟨y, y', e, h1, h2⟩ := SVl_two hs
  simp only [List.cons.injEq, and_true] at e
  obtain ⟨e1, e2⟩ := e
  split at hst
  · rename_i hcc
    simp only [Option.some.injEq, Prod.mk.injEq] at hst
    obtain ⟨rfl, rfl⟩ := hst
    obtain ⟨rfl, hpos, hby, hmx⟩ := hcc
    have b1 := SV_v h1
    have b2 := SV_v h2
    subst b1 b2
    split at hty
    · rename_i el hel
      simp only [Bool.and_eq_true, beq_iff_eq] at hty
      obtain ⟨⟨⟨hsz, hcz⟩, hcl⟩, hbt⟩ := hty
      obtain ⟨cs, hz, hfl⟩ := cellsEq_eq hcz
      have hcl' : cs.length = sz := by simpa [hfl] using hcl
      obtain ⟨N, rfl⟩ := Int.eq_ofNat_of_zero_le hpos
      simp only [Int.toNat_natCast] at hby hmx
      obtain ⟨y, w', hrun, k1, k2, k3⟩ := sim_make (P := P) (l := d) (k1 := kk) (k2 := kk2) hw hnew (isSlice_eq hel) hsz h0 hz hfl hcl' hbt hby hmx
      refine Does.new ?_ k1 k2 k3
      simp only [execOp, e1, e2]
      rw [Sem.run_bind, hrun]
      rfl
    · cases hty
  · cases hst

theorem ok_ext {k : Nat} (hc : chkOp P o.op xs (.ext k) = true) (hev : evs G fr xs = some vals) (hf : FR C fr a) (hG : GR C G) (hw : WR w0 Ws I0 C) (hnew : ¬ C.used g) (hst : step (.ext k) vals C.m g d = some (av, us)) : Does P w0 Ws I0 C g o a av us := by
  obtain ⟨dst, op, type, pos, after, guard⟩ := o
  simp only [chkOp] at hc
  split at hc <;> first | (cases hc; done) | skip
  rename_i x k2
  simp only [Bool.and_eq_true, beq_iff_eq] at hc
  obtain ⟨rfl, hc⟩ := hc
  have hs := evs_ok hf hG hc hev
  simp only [List.map_cons, List.map_nil] at hs
  simp only [step] at hst
  split at hst <;> first | (cases hst; done) | skip
  obtain ⟨y, e, h1⟩ := SVl_one hs
  simp only [List.cons.injEq, and_true] at e
  simp only [Option.map_eq_some_iff, Prod.mk.injEq] at hst
  obtain ⟨r, hr, rfl, rfl⟩ := hst
  obtain ⟨zs, rfl, hzs⟩ := h1
  obtain ⟨v, hv1, hv2⟩ := SVs_get hzs hr
  refine Does.quiet hw (y := v) ?_ (SV_of1 hv2)
  simp only [execOp, e, Instr.extract]
  simp at hv1
  simp [hv1]

theorem ok_mx (hc : chkOp P o.op xs (.mx) = true) (hev : evs G fr xs = some vals) (hf : FR C fr a) (hG : GR C G) (hw : WR w0 Ws I0 C) (hnew : ¬ C.used g) (hst : step (.mx) vals C.m g d = some (av, us)) : Does P w0 Ws I0 C g o a av us := by
  obtain ⟨dst, op, type, pos, after, guard⟩ := o
  simp only [chkOp] at hc
  split at hc <;> first | (cases hc; done) | skip
  rename_i args _
  have hs := evs_ok hf hG hc hev
  simp only [step] at hst
  split at hst <;> first | (cases hst; done) | skip
  obtain ⟨y, y', e, h1, h2⟩ := SVl_two hs
  simp only [Option.some.injEq, Prod.mk.injEq] at hst
  obtain ⟨rfl, rfl⟩ := hst
  have hargs : args.map a.eval = #[y, y'] := Array.ext' (by simpa using e)
  have b1 := SV_v h1
  have b2 := SV_v h2
  subst b1 b2
  refine Does.quiet hw (y := .int _ _) ?_ (SV_mk rfl)
  simp only [execOp, resolve, invoke, builtin, Sem.run_bind, Sem.run_pure, Result.andThen_ok, hargs]
  simp [Builtin.max_, Builtin.max2]

theorem ok_mn (hc : chkOp P o.op xs (.mn) = true) (hev : evs G fr xs = some vals) (hf : FR C fr a) (hG : GR C G) (hw : WR w0 Ws I0 C) (hnew : ¬ C.used g) (hst : step (.mn) vals C.m g d = some (av, us)) : Does P w0 Ws I0 C g o a av us := by
  obtain ⟨dst, op, type, pos, after, guard⟩ := o
  simp only [chkOp] at hc
  split at hc <;> first | (cases hc; done) | skip
  rename_i args _
  have hs := evs_ok hf hG hc hev
  simp only [step] at hst
  split at hst <;> first | (cases hst; done) | skip
  obtain ⟨y, y', e, h1, h2⟩ := SVl_two hs
  simp only [Option.some.injEq, Prod.mk.injEq] at hst
  obtain ⟨rfl, rfl⟩ := hst
  have hargs : args.map a.eval = #[y, y'] := Array.ext' (by simpa using e)
  have b1 := SV_v h1
  have b2 := SV_v h2
  subst b1 b2
  refine Does.quiet hw (y := .int _ _) ?_ (SV_mk rfl)
  simp only [execOp, resolve, invoke, builtin, Sem.run_bind, Sem.run_pure, Result.andThen_ok, hargs]
  simp [Builtin.min_, Builtin.min2]

end
end Go.Proofs.YtngemgmnpcaamaaDoor.WL
