/- Texts put together: S08g, S08h, S08i, S08j, S08k, S02a, S02b. -/
import Derived.Test.YtjlmpdbagmdbiaaDoorWm6
section
/-
  CHAPTER 08: the contract of Find.
-/
namespace Go.Proofs.YtjlmpdbagmdbiaaDoor.WL
open Go
theorem meets_of_wp {P : Program} {G : Nat → Option AV} {f : Nat} {fn : Func} {code : Code} {rs : List CRes} {args : List AV} {M : List (Nat × Loc)} {keep : Bool} {res : AV} {M' : List (Nat × Loc)} (hf : P.funcs[f]? = some fn) (hb : fn.body = some code) (hres : chkRes P fn.results.toList rs = true) (hn : args.length ≤ fn.ntmps)
    (hg : goodM keep M' M' = true ∧ goodA keep M' res = true ∧ (M'.map (·.1)).Nodup) (h : ∀ (w0 : World) (Ws I0 : Nat → Prop) (C0 : Ctx) (a : Act) (w : World), Rel w0 Ws I0 G C0 fn.ntmps ⟨argsL 0 args, M, 2⟩ a w → code.wp P (fun e a w => ∃ S', postA rs res M' e S' ∧ Rel w0 Ws I0 G C0 fn.ntmps S' a w) a w) : Meets P G f args M keep res M' := by
  refine ⟨hg, fun C Ws ys hw hm hu hG hv => ?_⟩
  have hlen := SVl_length hv
  refine calls_of_wp hf hb ?_
  have hrel : Rel C.w Ws C.I G C fn.ntmps ⟨argsL 0 args, M, 2⟩ { tmps := ys.toArray ++ Array.replicate (fn.ntmps - ys.toArray.size) undef, defers := [] } C.w := by
    refine ⟨Nat.le_refl _, C, rfl, hw, hm, fun t z hz => ?_, hG, Ctx.Le.refl C, by simp; omega, rfl, (fun i hi => by cases hi), fun k hk => by have := (hu k).1 hk; simp only; omega, fun h1 => by have := (hu 1).1 h1; omega⟩
    obtain ⟨_, h1⟩ := look_argsL hz
    rw [Nat.sub_zero] at h1
    obtain ⟨y, h2, h3⟩ := SVl_get hv h1
    refine ⟨y, ?_, h3⟩
    have hlt := (List.getElem?_eq_some_iff.1 h2).1
    rw [Array.getElem?_append_left (by simpa using hlt)]
    simpa using h2
  refine wp_mono (h _ _ _ _ _ _ hrel) ?_
  rintro e a w ⟨S, ⟨he, xs, L, T, hraw, hend⟩, hk, C1, rfl, hmid⟩
  have hm1 : C1.m = look S.m := hmid.m
  rw [← hm1] at hraw hend
  obtain ⟨y, hrun, hval⟩ := run_results hmid.wr hmid.fr hres hraw
  have hdef := hmid.defers
  suffices hR : ∃ y' C', y = y' ∧ C'.w = C1.w ∧ C.Le C' ∧ WR C.w Ws C.I C' ∧ C'.m = look M' ∧ SV C' res y' by
    obtain ⟨y', C', rfl, h1, h2, h3, h4, h5⟩ := hR
    rcases he with rfl | rfl <;> exact ⟨hdef, y, hrun, y, C', rfl, h1, h2, h3, h4, h5⟩
  let U : Nat → Prop := fun g => C1.used g ∨ g = 0 ∨ g = 1
  have hst' : ∀ (a : AV), Stamped (fun g => g = 0 ∨ g = 1) a → Stamped U a := by
    have key : (∀ (a : AV), Stamped (fun g => g = 0 ∨ g = 1) a → Stamped U a) := fun a => stamped_mono (fun g h => .inr h) a
    exact key
  have hnamed : Named C1.m L M' T U := ⟨hend.named.nd, hend.named.fit, hend.named.lent, hend.named.ns, hend.named.apart, fun e he => by
    have := hend.named.st e he
    cases hq : e.2 with
    | var g w => rw [hq] at this; exact ⟨.inr this.1, hst' w this.2⟩
    | rows g sz ws => rw [hq] at this; exact ⟨.inr this.1, stampedL_mono (fun g h => .inr h) ws this.2⟩
    | ob g q w => rw [hq] at this; exact ⟨.inr this.1, hst' w this.2⟩⟩
  have hle : C1.Le (reCtx C1 L M' T U) := by
    refine ⟨fun g hg => .inl hg, fun k hk => .inl hk, fun _ _ => rfl, fun l c' hc' hu' => ?_⟩
    have hmem := look_mem hc'
    have hgE := goodM_mem hg.1 hmem
    have hgen : c'.gen = 0 := by
      cases c' with
      | var g w =>
        simp only [goodE, Bool.and_eq_true, Bool.or_eq_true, beq_iff_eq] at hgE
        rcases hgE.1 with h | h
        · exact h
        · subst h; exact absurd hu' hmid.one
      | rows g sz ws =>
        simp only [goodE, Bool.and_eq_true, beq_iff_eq] at hgE
        obtain ⟨rfl, _⟩ := hgE
        exact absurd hu' hmid.one
      | ob g q w =>
        simp only [goodE, Bool.and_eq_true, Bool.or_eq_true, beq_iff_eq] at hgE
        rcases hgE.1 with h | h
        · exact h
        · subst h; exact absurd hu' hmid.one
    have hold := hend.old _ hmem hgen
    simp only at hold
    have hfit := hnamed.fit _ hmem
    cases c' with
    | rows g sz ws =>
      simp only [Loc.gen] at hgen
      subst hgen
      simp [goodE] at hgE
    | var g w =>
      simp only [Loc.gen] at hgen
      subst hgen
      obtain ⟨l2, g2, raw, h1, h2, _⟩ := hfit
      simp only at h1
      rw [hold] at h1
      obtain ⟨rfl, rfl⟩ := (by simpa using h1 : l = l2 ∧ 0 = g2)
      refine ⟨_, h2, rfl, by simp [reCtx, src, hold], fun b _ cur _ hcur => ⟨cur, hcur, rfl⟩⟩
    | ob g q w =>
      simp only [Loc.gen] at hgen
      subst hgen
      obtain ⟨l2, g2, raw, h1, h2, _⟩ := hfit
      simp only at h1
      rw [hold] at h1
      obtain ⟨rfl, rfl⟩ := (by simpa using h1 : l = l2 ∧ 0 = g2)
      refine ⟨_, h2, ⟨rfl, rfl⟩, by simp [reCtx, src, hold], fun b _ cur _ hcur => ⟨cur, hcur, rfl⟩⟩
  have hwr : WR C.w Ws C.I (reCtx C1 L M' T U) := by
    refine hnamed.wr hmid.wr (fun k hk => .inl (hmid.wr.imm0 k hk)) (fun l c b _ h2 h3 => (hmid.wr.own l c b h2 h3).2.2) (fun k hk => ?_) hmid.wr.os hmid.wr.tape hmid.wr.output hmid.wr.size hmid.wr.block
    rcases hk with hk | ⟨t, _, ct, hct, hbt⟩
    · exact (hmid.wr.imm k hk).2
    · exact .inr ((hmid.wr.own t ct k hct hbt).2.2)
  exact ⟨y, reCtx C1 L M' T U, rfl, rfl, hmid.le.trans hle, hwr, rfl, SV_fitR hmid.wr hnamed.seen hend.fit hend.lent (hst' res hend.st) hval⟩

end Go.Proofs.YtjlmpdbagmdbiaaDoor.WL

end
section
/-
  CHAPTER 08: the contract of Find, last part.
-/
namespace Go.Proofs.YtjlmpdbagmdbiaaDoor.WL
open Go
set_option maxHeartbeats 4000000

theorem Es_B {C : Ctx} : ∀ (bs : Bytes) (cs : List Value), Es C 1 (B bs) cs → cs = bs.map (fun b => Value.int .u8 (b.toNat : Int))
  | [], cs, h => by simpa [B, Es] using h
  | b :: bs, cs, h => by
    have h' : Es C 1 (bv b :: B bs) cs := h
    simp only [Es] at h'
    obtain ⟨c1, c2, rfl, _, h1, h2⟩ := h'
    simp only [bv, V] at h1
    rw [h1.1, Es_B bs c2 h2]
    rfl
theorem V_mem {C : Ctx} {m : Mem} {cs : List Value} (h : V C m.av cs) : cs = encMem m := by
  simp only [Mem.av, V, Vs, dv] at h
  obtain ⟨c1, r1, rfl, ⟨rfl, _⟩, c2, r2, rfl, ⟨c3, r3, rfl, h3, c4, r4, rfl, ⟨rfl, _⟩, rfl⟩, rfl⟩ := h
  rw [Es_B m.root.bs c3 h3]
  simp [encMem]
theorem Es_mems {C : Ctx} : ∀ (ms : List Mem) (cs : List Value), Es C 34 (Mems ms) cs → ∀ j (hj : j < ms.length) i v, (encMem ms[j])[i]? = some v → cs[j * 34 + i]? = some v := by
  intro ms cs h j hj i v hv
  have hg := Es_get (i := j) (x := (ms[j]).av) h (by simp [hj])
  have e := V_mem hg.1
  rw [← e] at hv
  have hi : i < 34 := by
    have := (List.getElem?_eq_some_iff.1 hv).1
    rw [hg.2] at this
    exact this
  rw [List.getElem?_take_of_lt hi, List.getElem?_drop] at hv
  exact hv

def c_find_r0 : List COper := [⟨some 2, .box, [.t 0], none⟩, ⟨some 3, .box, [.t 1], none⟩, ⟨some 4, .alloc (.node [.v (.int .i64 0), .node [.arr 1 (rep 32 (.v (.int .u8 0))), .v (.int .i64 0)]]), [], none⟩, ⟨some 5, .mov, [.c (.int .i64 0)], none⟩, ⟨some 6, .mov, [.c (.bool false)], none⟩]
def c_find_r2 : List COper := [⟨some 12, .mov, [.t 7], none⟩, ⟨some 13, .bin .lss, [.t 12, .c (.int .i64 0)], none⟩]
def c_find_r3 : List COper := [⟨some 14, .build [.v (.int .i64 0), .node [.arr 1 (rep 32 (.v (.int .u8 0))), .v (.int .i64 0)]] [], [], none⟩, ⟨none, .store true 34, [.t 4, .t 14], none⟩, ⟨some 5, .mov, [.c (.int .i64 0)], none⟩, ⟨some 6, .mov, [.c (.bool false)], none⟩]
def c_find_r4 : List COper := [⟨some 15, .faddr 1 1 false, [.t 2], none⟩, ⟨some 16, .load false 1, [.t 15], none⟩, ⟨some 17, .mov, [.t 7], none⟩, ⟨some 18, .iaddr 34, [.t 16, .t 17], none⟩, ⟨some 19, .load true 34, [.t 18], none⟩, ⟨some 20, .mov, [.t 7], none⟩, ⟨none, .store true 34, [.t 4, .t 19], none⟩, ⟨some 5, .mov, [.t 20], none⟩, ⟨some 6, .mov, [.c (.bool true)], none⟩]
def c_find_rest : CCode := .seq (.seq (.region c_find_r2 none [2, 4, 7, 13]) (.cond (.t 13) (.seq (.region c_find_r3 none [4, 5, 6]) .ret) .skip)) (.seq (.region c_find_r4 none [4, 5, 6]) .ret)
instance : Reg c_find_r0 [⟨some 2, .box, [.t 0], none⟩, ⟨some 3, .box, [.t 1], none⟩, ⟨some 4, .alloc (.node [.v (.int .i64 0), .node [.arr 1 (rep 32 (.v (.int .u8 0))), .v (.int .i64 0)]]), [], none⟩, ⟨some 5, .mov, [.c (.int .i64 0)], none⟩, ⟨some 6, .mov, [.c (.bool false)], none⟩] 5 := ⟨rfl, rfl⟩
instance : Reg c_find_r2 [⟨some 12, .mov, [.t 7], none⟩, ⟨some 13, .bin .lss, [.t 12, .c (.int .i64 0)], none⟩] 2 := ⟨rfl, rfl⟩
instance : Reg c_find_r3 [⟨some 14, .build [.v (.int .i64 0), .node [.arr 1 (rep 32 (.v (.int .u8 0))), .v (.int .i64 0)]] [], [], none⟩, ⟨none, .store true 34, [.t 4, .t 14], none⟩, ⟨some 5, .mov, [.c (.int .i64 0)], none⟩, ⟨some 6, .mov, [.c (.bool false)], none⟩] 4 := ⟨rfl, rfl⟩
instance : Reg c_find_r4 [⟨some 15, .faddr 1 1 false, [.t 2], none⟩, ⟨some 16, .load false 1, [.t 15], none⟩, ⟨some 17, .mov, [.t 7], none⟩, ⟨some 18, .iaddr 34, [.t 16, .t 17], none⟩, ⟨some 19, .load true 34, [.t 18], none⟩, ⟨some 20, .mov, [.t 7], none⟩, ⟨none, .store true 34, [.t 4, .t 19], none⟩, ⟨some 5, .mov, [.t 20], none⟩, ⟨some 6, .mov, [.c (.bool true)], none⟩] 9 := ⟨rfl, rfl⟩
noncomputable def seqL : Code → Code
  | .seq a _ => a
  | c => c
noncomputable def seqR : Code → Code
  | .seq _ b => b
  | c => c
noncomputable def regOps : Code → Array Oper
  | .region _ ops _ => ops
  | _ => #[]
noncomputable def findBody : Code := match Tryd.f89.body with
  | some c => c
  | none => .skip
theorem find_body : Tryd.f89.body = some findBody := by kernel_rfl
theorem find_seq : findBody = .seq (seqL findBody) (.seq (.region 1 (regOps (seqL (seqR findBody))) false) (seqR (seqR findBody))) := by kernel_rfl
theorem find_chk0 : chkCode Tryd.prog 21 (seqL findBody) (.region c_find_r0 none [2, 3, 4, 5, 6]) = true := by kernel_rfl
theorem find_chk1 : chkCode Tryd.prog 21 (seqR (seqR findBody)) c_find_rest = true := by kernel_rfl
theorem find_ops0 : chkOper Tryd.prog (regOps (seqL (seqR findBody))) 21 ((regOps (seqL (seqR findBody)))[0]!) ⟨some 8, .faddr 1 1 false, [.t 2], none⟩ = true := by kernel_rfl
theorem find_ops1 : chkOper Tryd.prog (regOps (seqL (seqR findBody))) 21 ((regOps (seqL (seqR findBody)))[1]!) ⟨some 9, .load false 1, [.t 8], none⟩ = true := by kernel_rfl
theorem find_ops4 : chkOper Tryd.prog (regOps (seqL (seqR findBody))) 21 ((regOps (seqL (seqR findBody)))[4]!) ⟨some 7, .mov, [.t 11], none⟩ = true := by kernel_rfl
theorem find_opsn : (regOps (seqL (seqR findBody))).size = 5 := by kernel_rfl
end Go.Proofs.YtjlmpdbagmdbiaaDoor.WL

end
section
/-
  CHAPTER 08: the region in Find that makes the test and asks IndexFunc.
-/
namespace Go.Proofs.YtjlmpdbagmdbiaaDoor.WL
open Go Go.Proofs Go.Shelf Go.RowKit Go.Lib
set_option maxHeartbeats 4000000

noncomputable def opsF : Array Oper := regOps (seqL (seqR findBody))
theorem opsF_two : opsF[2]? = some ⟨some 10, .makeFunc (.func 124) #[] #[.tmp 3], 129, "config.go:46", #[], none⟩ := by kernel_rfl
theorem opsF_three : ∃ t p af at', opsF[3]? = some ⟨some 11, .call { callee := .value (.func 123), args := #[.tmp 9, .tmp 10], argTypes := at' }, t, p, af, none⟩ := by
  have h : opsF[3]? = some (opsF[3]!) := by kernel_rfl
  have h2 : opsF[3]! = ⟨some 11, .call { callee := .value (.func 123), args := #[.tmp 9, .tmp 10], argTypes := #[22, 129] }, (opsF[3]!).type, (opsF[3]!).pos, (opsF[3]!).after, none⟩ := by kernel_rfl
  exact ⟨_, _, _, _, h.trans (congrArg some h2)⟩
theorem opsF_zero : opsF[0]? = some (opsF[0]!) := by kernel_rfl
theorem opsF_one : opsF[1]? = some (opsF[1]!) := by kernel_rfl
theorem opsF_four : opsF[4]? = some (opsF[4]!) := by kernel_rfl

section
variable {w0 : World} {Ws I0 : Nat → Prop} {G : Nat → Option AV} {C0 C : Ctx}

theorem grown_of_below {w w' : World} (h : Below w.heap.size w w') : w.grownBy w' none := ⟨h.os, h.tape, h.output, h.size, fun k hk _ => h.block k hk⟩

/-- What the slots hold when the call comes. -/
theorem find_call {c : Conf} {id : Int} (hms : c.ms ≠ []) {g3 clk : Nat} {s : AS} {a : Act} {rem : List Nat} {Q : Exit → Act → World → Prop} {K : Act → World → Prop}
    (hm : Mid w0 Ws I0 G C0 21 clk (clk + 5) rem s a C) (h9 : s.1 9 = some (.sl 34 (Mems c.ms))) (h3 : s.1 3 = some (.ptr 3 g3 0)) (m3 : s.2 3 = some (.var g3 (.v (.int .i64 id))))
    (hK : ∀ a' C', Mid w0 Ws I0 G C0 21 clk (clk + 5) rem (upd (upd s.1 10 none) 11 (some (.v (.int .i64 (idxOf c.ms id)))), s.2) a' C' → K a' C'.w) :
    wpOp Tryd.prog opsF Q 2 (wpOp Tryd.prog opsF Q 3 K) a C.w := by
  obtain ⟨y3, e3, v3⟩ := hm.fr 3 _ h3
  obtain ⟨y9, e9, v9⟩ := hm.fr 9 _ h9
  obtain ⟨p3, q3, _, r3⟩ := v3
  obtain rfl : y3 = .pointer (some p3) := by simpa using q3
  have hmm : C.m 3 = some (.var g3 (.v (.int .i64 id))) := by rw [hm.m]; exact m3
  obtain ⟨B, hB, rfl⟩ := r3 _ hmm
  obtain ⟨b', cur, T, k1, k2, k3⟩ := hm.wr.locs 3 _ hmm
  obtain rfl : B = b' := by rw [hB] at k1; exact Option.some.inj k1
  simp only [V] at k3
  have hcell : C.w.cell? ⟨B, 0, none⟩ = some (.int .i64 id) := by
    have hcur : cur = #[.int .i64 id] := Array.ext' k3.1
    simp [World.cell?, k2, hcur]
  have hBw := (hm.wr.own 3 _ B hmm hB).1
  obtain ⟨ao, cap, body, q9, hlen, hcap, hes, hbk⟩ := v9
  have hmx : maxLen ≤ 9223372036854775807 := by simp [maxLen]
  obtain rfl : y9 = .slice ao (Mems c.ms).length cap := by simpa using q9
  obtain ⟨b, o, rfl, hIb, hcs⟩ := hbk.resolve_left (by intro h; apply hms; cases hc : c.ms with | nil => rfl | cons x l => rw [hc] at h; cases h)
  have hbw := (hm.wr.imm b hIb).1
  unfold wpOp
  rw [opsF_two]
  simp only
  rw [if_pos (by rfl)]
  left
  unfold Oper.wp
  have run2 : (execOp a.eval ⟨some 10, .makeFunc (.func 124) #[] #[.tmp 3], 129, "config.go:46", #[], none⟩).run Tryd.prog C.w = .ok (.value (.func (.func 124) #[] #[.pointer (some ⟨B, 0, none⟩)])) C.w := by
    have e : a.eval (.tmp 3) = .pointer (some ⟨B, 0, none⟩) := by
      show a.tmps.getD 3 undef = _
      rw [Array.getD_eq_getD_getElem?, e3]; rfl
    simp [execOp, Instr.makeFunc, e]
  rw [run2, Oper.upon_value]
  obtain ⟨t, p, af, at', h3'⟩ := opsF_three
  rw [h3']
  simp only
  rw [if_pos (by rfl)]
  left
  have hsz := hm.size
  have run3 : (execOp (a.put (some 10) (.func (.func 124) #[] #[.pointer (some ⟨B, 0, none⟩)])).eval ⟨some 11, .call { callee := .value (.func 123), args := #[.tmp 9, .tmp 10], argTypes := at' }, t, p, af, none⟩).run Tryd.prog C.w
      = .ok (.enter 123 #[.slice (some ⟨b, o, none⟩) (Mems c.ms).length cap, .func (.func 124) #[] #[.pointer (some ⟨B, 0, none⟩)]]) C.w := by
    have e9' : (a.put (some 10) (.func (.func 124) #[] #[.pointer (some ⟨B, 0, none⟩)])).eval (.tmp 9) = .slice (some ⟨b, o, none⟩) (Mems c.ms).length cap := by
      show Array.getD _ 9 undef = _
      rw [Array.getD_eq_getD_getElem?]
      simp only [Act.put]
      rw [Array.getElem?_setIfInBounds_ne (by decide), e9]; rfl
    have e10 : (a.put (some 10) (.func (.func 124) #[] #[.pointer (some ⟨B, 0, none⟩)])).eval (.tmp 10) = .func (.func 124) #[] #[.pointer (some ⟨B, 0, none⟩)] := by
      show Array.getD _ 10 undef = _
      rw [Array.getD_eq_getD_getElem?]
      simp only [Act.put]
      rw [Array.getElem?_setIfInBounds_self_of_lt (by omega)]; rfl
    have e : execOp (a.put (some 10) (.func (.func 124) #[] #[.pointer (some ⟨B, 0, none⟩)])).eval ⟨some 11, .call { callee := .value (.func 123), args := #[.tmp 9, .tmp 10], argTypes := at' }, t, p, af, none⟩ = callFunc 123 (#[] ++ #[Operand.tmp 9, .tmp 10].map (a.put (some 10) (.func (.func 124) #[] #[.pointer (some ⟨B, 0, none⟩)])).eval ++ #[]) := rfl
    have eg : ∀ args w, (callFunc 123 args).run Tryd.prog w = .ok (.enter 123 args) w := enters_of Tryd.func123 (by kernel_rfl) rfl
    rw [e, eg]
    simp [e9', e10]
  rw [run3, Oper.upon_enter]
  have hl : (Mems c.ms).length = c.ms.length := by simp
  rw [hl]
  refine Calls.mono (index_calls id b o cap B c.ms C.w (by rw [← hl]; omega) hbw hBw hcell ?_) ?_
  · intro j hj i v hv
    rw [show c.ms[j]! = c.ms[j] by simp [hj]] at hv
    have := hcs _ v (Es_mems c.ms body hes j hj i v hv)
    rwa [← Nat.add_assoc] at this
  · rintro ex w' ⟨rfl, hbel⟩
    obtain ⟨hle, hwr⟩ := hm.wr.world (grown_of_below hbel)
    refine hK _ { C with w := w' } ⟨hwr, hm.m, ?_, hm.gr.mono hle, hm.le.trans hle, ?_, ?_, hm.fresh, hm.top, hm.one⟩
    · intro u x hx
      dsimp only at hx ⊢
      by_cases e11 : u = 11
      · subst e11
        simp only [upd_same, Option.some.injEq] at hx
        subst hx
        refine ⟨.int .i64 (idxOf c.ms id), ?_, ?_⟩
        · simp only [Act.put]
          rw [Array.getElem?_setIfInBounds_self_of_lt (by simp; omega)]
        · simp [SV, SV1, V, Value.oneCell']
      · rw [upd_other _ _ e11] at hx
        by_cases e10 : u = 10
        · subst e10; simp at hx
        · rw [upd_other _ _ e10] at hx
          obtain ⟨z, h1, h2⟩ := (hm.fr.mono hle) u x hx
          refine ⟨z, ?_, h2⟩
          simp only [Act.put]
          rw [Array.getElem?_setIfInBounds_ne (fun h => e11 h.symm), Array.getElem?_setIfInBounds_ne (fun h => e10 h.symm)]
          exact h1
    · simp [Act.put, hsz]
    · simp [Act.put, hm.defers]
end
end Go.Proofs.YtjlmpdbagmdbiaaDoor.WL

end
section
/-
  CHAPTER 08: the contracts of Find.
-/
namespace Go.Proofs.YtjlmpdbagmdbiaaDoor.WL
open Go Go.Proofs Go.Shelf Go.RowKit Go.Lib
set_option maxHeartbeats 4000000
attribute [local irreducible] idxOf

section
variable {w0 : World} {Ws I0 : Nat → Prop} {G : Nat → Option AV} {C0 C : Ctx}

def findM (c : Conf) (id : Int) : List (Nat × Loc) := [(2, .var 2 c.av), (3, .var 3 (.v (.int .i64 id))), (4, .var 4 (.node [.v (.int .i64 0), .node [.arr 1 (rep 32 (.v (.int .u8 0))), .v (.int .i64 0)]]))]
def findS (c : Conf) (id : Int) : SA := ⟨[(2, .ptr 2 2 0), (3, .ptr 3 3 0), (4, .ptr 4 4 0), (5, .v (.int .i64 0)), (6, .v (.bool false))], findM c id, 7⟩
def findT (c : Conf) (id : Int) : SA := ⟨[(2, .ptr 2 2 0), (4, .ptr 4 4 0), (7, .v (.int .i64 (idxOf c.ms id)))], findM c id, 12⟩

theorem wpOps_fun {P : Program} {ops : Array Oper} {Q : Exit → Act → World → Prop} (i : Nat) (rest : List Nat) : wpOps P ops Q (i :: rest) = wpOp P ops Q i (wpOps P ops Q rest) := by
  funext a w
  exact wpOps_cons i rest a w
theorem find_first (c : Conf) (id : Int) : awp Tryd.prog G (.region c_find_r0 none [2, 3, 4, 5, 6]) (fun e S => e = .normal ∧ S = findS c id) ⟨argsL 0 [c.av, .v (.int .i64 id)], [], 2⟩ := by
  refine awp_go ?_
  simp [findS, findM]

theorem find_mid {c : Conf} {id : Int} (hms : c.ms ≠ []) {a : Act} {w : World} {Q : Exit → Act → World → Prop} (hr : Rel w0 Ws I0 G C0 21 (findS c id) a w)
    (hK : ∀ a' w', Rel w0 Ws I0 G C0 21 (findT c id) a' w' → Q .normal a' w') : (Code.region 1 opsF false).wp Tryd.prog Q a w := by
  refine wp_region ?_
  have hs5 : opsF.size = 5 := find_opsn
  rw [hs5, show List.range 5 = [0, 1, 2, 3, 4] from rfl]
  rw [wpOps_fun, wpOps_fun, wpOps_fun, wpOps_fun, wpOps_fun]
  obtain ⟨hk, C, rfl, hm⟩ := hr
  have hm0 := Rel.start (n := 5) hk hm [0, 1, 4]
  refine mid_op (rd := []) (us := []) (av := .ptr 2 2 1) opsF_zero find_ops0 (by decide) (by simp) (by simp [findS]) (by simp [findS]) hm0 (.inr ⟨rfl, [.ptr 2 2 0], rfl, rfl, rfl⟩) fun a1 C1 h1 => ?_
  refine mid_op (rd := [2]) (us := []) (av := .sl 34 (Mems c.ms)) opsF_one find_ops1 (by decide) (by simp) (by simp [findS]) (by simp [findS]) h1 (.inr ⟨rfl, [.ptr 2 2 1], rfl, by rfl, rfl⟩) fun a2 C2 h2 => ?_
  refine find_call (c := c) (id := id) hms (g3 := 3) h2 rfl rfl rfl fun a3 C3 h3 => ?_
  refine mid_op (rd := []) (us := []) (av := .v (.int .i64 (idxOf c.ms id))) opsF_four find_ops4 (by decide) (by simp) (by simp [findS]) (by simp [findS]) h3 (.inr ⟨rfl, [.v (.int .i64 (idxOf c.ms id))], rfl, rfl, rfl⟩) fun a4 C4 h4 => ?_
  refine hK _ _ ⟨by simp [findT], C4, rfl, h4.wr, h4.m, ?_, h4.gr, h4.le, h4.size, h4.defers, by simp, fun k hk => h4.top k hk, h4.one⟩
  intro t x hx
  have : t = 2 ∨ t = 4 ∨ t = 7 := by
    simp only [findT, look] at hx
    split at hx
    · omega
    · split at hx
      · omega
      · split at hx
        · omega
        · cases hx
  rcases this with rfl | rfl | rfl <;> exact h4.fr _ x hx
end
variable {G : Nat → Option AV}
theorem find_pre {c : Conf} {id : Int} (hms : c.ms ≠ []) {res : AV} (hg : goodM true [] [] = true ∧ goodA true [] res = true ∧ (([] : List (Nat × Loc)).map (·.1)).Nodup)
    (h : awp Tryd.prog G c_find_rest (postA [.cell 4 true 34, .tmp 5, .tmp 6] res []) (findT c id)) : Meets Tryd.prog G 89 [c.av, .v (.int .i64 id)] [] true res [] := by
  have hf : Tryd.prog.funcs[89]? = some Tryd.f89 := by kernel_rfl
  have hn : Tryd.f89.ntmps = 21 := by kernel_rfl
  refine meets_of_wp (rs := [.cell 4 true 34, .tmp 5, .tmp 6]) hf find_body (by kernel_rfl) (by rw [hn]; simp) hg fun w0 Ws I0 C0 a w hr => ?_
  rw [hn] at hr ⊢
  rw [find_seq]
  refine wp_seq (wp_mono (awp_ok mix find_chk0 (find_first c id) hr) ?_)
  rintro e a' w' ⟨S', ⟨rfl, rfl⟩, hr'⟩
  refine wp_seq (find_mid hms hr' fun a'' w'' hr'' => ?_)
  exact awp_ok mix find_chk1 h hr''
end Go.Proofs.YtjlmpdbagmdbiaaDoor.WL

end
section
/-
  CHAPTER 08: Find's answers.
-/
namespace Go.Proofs.YtjlmpdbagmdbiaaDoor.WL
open Go
set_option maxHeartbeats 4000000
attribute [local irreducible] idxOf
variable {G : Nat → Option AV}

theorem mem_goodA (m : Mem) : goodA true [] m.av = true := by simp [Mem.av, dv]
theorem find_none {c : Conf} {id : Int} (hms : c.ms ≠ []) (h : idxOf c.ms id = -1) : Meets Tryd.prog G 89 [c.av, .v (.int .i64 id)] [] true (.tup [Mem.av ⟨0, Dg.zero, 0⟩, .v (.int .i64 0), .v (.bool false)]) [] := by
  refine find_pre hms (by simp [mem_goodA]) ?_
  refine awp_go ?_
  simp [c_find_rest, findT, findM, h]
  refine post_end (.inr rfl) ?_
  simp [Mem.av, dv]
theorem find_some {c : Conf} {id : Int} {k : Nat} (hk : k < c.ms.length) (h : idxOf c.ms id = (k : Int)) : Meets Tryd.prog G 89 [c.av, .v (.int .i64 id)] [] true (.tup [(c.ms[k]).av, .v (.int .i64 k), .v (.bool true)]) [] := by
  refine find_pre (fun e => by rw [e] at hk; cases hk) (by simp [mem_goodA]) ?_
  refine awp_go ?_
  have h0 : ¬ ((k : Int) < 0) := by omega
  simp [c_find_rest, findT, findM, h, Conf.av, h0, hk]
  refine post_end (.inr rfl) ?_
  simp [Mem.av, dv]
end Go.Proofs.YtjlmpdbagmdbiaaDoor.WL

end
section
/-
  CHAPTER 02: contracts: words.
-/
namespace Go.Proofs.YtjlmpdbagmdbiaaDoor.WL
open Go
set_option maxHeartbeats 4000000

theorem rot_meets {G : Nat → Option AV} (x : UInt32) (r : Nat) (h : 0 < r ∧ r < 32) : Meets Tryd.prog G fn_bits_RotateLeft32 [wv x, .v (.int .i64 (-(r : Int)))] [] true (wv (rotr x r)) [] := by
  refine meets_of_go mix k_bits_RotateLeft32 ⟨by simp, by simp, by simp⟩ ?_
  have h1 : bitsOp .and .u64 (IntKind.u64.wrap (-(r : Int))) 31 = ((32 - r : Nat) : Int) := by
    obtain ⟨k, rfl⟩ : ∃ k : Fin 32, r = k.val := ⟨⟨r, h.2⟩, rfl⟩
    revert h
    revert k
    decide +kernel
  have h2 : (0 : Int) ≤ ((32 - r : Nat) : Int) := by omega
  have h3 : IntKind.u64.wrap (32 - ((32 - r : Nat) : Int)) = (r : Int) := by rw [u64_id (by omega)]; omega
  have h4 : min (32 - r) 32 = 32 - r := by omega
  have h5 : min r 32 = r := by omega
  have h6 := u32_shl x (32 - r) (by omega)
  have h7 := u32_shr x r h.2
  have h8 : (x <<< UInt32.ofNat (32 - r)) ||| (x >>> UInt32.ofNat r) = rotr x r := UInt32.or_comm _ _
  simp [h1, h2, h3, h4, h5, h6, h7, u32_or, h8]
  refine post_end (.inr rfl) ?_
  simp

theorem word_meets {G : Nat → Option AV} (b : Bytes) (h : 4 ≤ b.length) : Meets Tryd.prog G fn_sha_word [.sl 1 (B b)] [] true (wv (word4 (b.getD 0 0) (b.getD 1 0) (b.getD 2 0) (b.getD 3 0))) [] := by
  refine meets_of_go mix k_sha_word ⟨by simp, by simp, by simp⟩ ?_
  match b, h with
  | a :: b :: c :: d :: r, _ =>
    have h1 := u32_shl a.toUInt32 24 (by decide)
    have h2 := u32_shl b.toUInt32 16 (by decide)
    have h3 := u32_shl c.toUInt32 8 (by decide)
    simp only [Int.reducePow] at h1 h2 h3
    simp [u32_byte, h1, h2, h3, u32_or]
    refine post_end (.inr rfl) ?_
    simp [word4]

theorem turn_meets {G : Nat → Option AV} (x : UInt32) (r : Nat) (h : 0 < r ∧ r < 32) : Meets Tryd.prog G fn_r02_turn [wv x, .v (.int .u64 (r : Int))] [] true (wv (rotr x r)) [] := by
  refine meets_of_go mix k_r02_turn ⟨by simp, by simp, by simp⟩ ?_
  have h2 : (0 : Int) ≤ ((32 - r : Nat) : Int) := by omega
  have h3 : IntKind.u64.wrap (32 - (r : Int)) = ((32 - r : Nat) : Int) := by rw [u64_id (by omega)]; omega
  have h4 : min (32 - r) 32 = 32 - r := by omega
  have h5 : min r 32 = r := by omega
  have h6 := u32_shl x (32 - r) (by omega)
  have h7 := u32_shr x r h.2
  simp [h2, h3, h4, h5, h6, h7, u32_or]
  refine post_end (.inr rfl) ?_
  simp [rotr]

theorem three_meets {G : Nat → Option AV} (x : UInt32) (i j k : Nat) (hi : 0 < i ∧ i < 32) (hj : 0 < j ∧ j < 32) (hk : 0 < k ∧ k < 32) : Meets Tryd.prog G fn_r02_three [wv x, .v (.int .u64 (i : Int)), .v (.int .u64 (j : Int)), .v (.int .u64 (k : Int))] [] true (wv (rotr x i ^^^ rotr x j ^^^ rotr x k)) [] := by
  refine meets_of_go mix k_r02_three ⟨by simp, by simp, by simp⟩ ?_
  simp
  refine call_intro (turn_meets x i hi) ?_ ?_
  · simp
  simp
  refine call_intro (turn_meets x j hj) ?_ ?_
  · simp
  simp [u32_xor]
  refine call_intro (turn_meets x k hk) ?_ ?_
  · simp
  simp [u32_xor]
  refine post_end (.inr rfl) ?_
  simp
end Go.Proofs.YtjlmpdbagmdbiaaDoor.WL

end
section
/-
  CHAPTER 02: contracts: a block.
-/
namespace Go.Proofs.YtjlmpdbagmdbiaaDoor.WL
open Go
set_option maxHeartbeats 4000000

attribute [local irreducible] rounds grow table

/-- The program's variable. -/
def Gt : Nat → Option AV := fun n => if n = 0 then some (.arr 1 (U table)) else none
def St.av (s : St) : AV := .arr 1 (U s.list)
/-- A state variable. -/
def stM (s : St) : List (Nat × Loc) := [(1000, .var 0 s.av)]

theorem words_get (b : Bytes) (j : Nat) (h : j < 16) : (words b)[j]? = some (word4 (b.getD (4 * j) 0) (b.getD (4 * j + 1) 0) (b.getD (4 * j + 2) 0) (b.getD (4 * j + 3) 0)) := by simp [words, h]

/-- The next word, out of an array with room behind it. -/
theorem next_get (w : List UInt32) (z : List UInt32) (k : Nat) (hk : k ≤ w.length) (h0 : 0 < k) : (w ++ z)[w.length - k]? = some (w.getD (w.length - k) 0) := by
  rw [List.getElem?_append_left (by omega), List.getD_eq_getElem?_getD, List.getElem?_eq_getElem (by omega)]
  rfl
theorem grow_set (w : List UInt32) (n : Nat) (v : UInt32) : (w ++ zeros32 (n + 1)).set w.length v = (w ++ [v]) ++ zeros32 n := by
  rw [List.set_append_right _ _ (Nat.le_refl _), Nat.sub_self, List.append_assoc]
  rfl
def plusL (s t : St) (j : Nat) : List UInt32 := (s.plus t).list.take j ++ s.list.drop j
theorem plusL_get (s t : St) (j : Nat) (h : j < 8) : (plusL s t j)[j]? = some (s.list.getD j 0) ∧ (plusL s t j).set j (s.list.getD j 0 + t.list.getD j 0) = plusL s t (j + 1) ∧ t.list[j]? = some (t.list.getD j 0) := by
  match j, h with
  | 0, _ => exact ⟨rfl, rfl, rfl⟩
  | 1, _ => exact ⟨rfl, rfl, rfl⟩
  | 2, _ => exact ⟨rfl, rfl, rfl⟩
  | 3, _ => exact ⟨rfl, rfl, rfl⟩
  | 4, _ => exact ⟨rfl, rfl, rfl⟩
  | 5, _ => exact ⟨rfl, rfl, rfl⟩
  | 6, _ => exact ⟨rfl, rfl, rfl⟩
  | 7, _ => exact ⟨rfl, rfl, rfl⟩
@[simp] theorem plusL_length (s t : St) (j : Nat) (h : j ≤ 8) : (plusL s t j).length = 8 := by
  have h1 : (s.plus t).list.length = 8 := rfl
  have h2 : s.list.length = 8 := rfl
  simp only [plusL, List.length_append, List.length_take, List.length_drop, h1, h2]
  omega
theorem plusL_8 (s t : St) : plusL s t 8 = (s.plus t).list := rfl
theorem plusL_0 (s t : St) : plusL s t 0 = s.list := rfl
theorem comp_eq (s : St) (b : Bytes) (w : List UInt32) (N : Nat) (hN : N = 64) (h : grow 48 (words b) = w) : comp s b = s.plus (rounds w N s) := by subst hN h; rfl
theorem getD_get (l : List UInt32) (j : Nat) (h : j < l.length) : l[j]? = some (l.getD j 0) := by
  rw [List.getD_eq_getElem?_getD, List.getElem?_eq_getElem h]
  rfl
def i16 (j : Nat) : Int := ((16 + j : Nat) : Int)
@[simp] theorem i16_0 : i16 0 = 16 := rfl
@[simp] theorem i16_48 : i16 48 = 64 := rfl
theorem i16_eq (j : Nat) : i16 j = 16 + (j : Int) := by simp [i16]
theorem rot_lit {G : Nat → Option AV} (x : UInt32) (r : Nat) (k : Int) (h : (0 < r ∧ r < 32) ∧ k = -(r : Int)) : Meets Tryd.prog G fn_bits_RotateLeft32 [wv x, .v (.int .i64 k)] [] true (wv (rotr x r)) [] := by
  obtain ⟨h1, rfl⟩ := h
  exact rot_meets x r h1
theorem shr3 (x : UInt32) : w32 x / (8 : Int) = w32 (x >>> 3) := by have := u32_shr x 3 (by decide); simpa using this
theorem shr10 (x : UInt32) : w32 x / (1024 : Int) = w32 (x >>> 10) := by have := u32_shr x 10 (by decide); simpa using this
theorem block_meets (s : St) (b : Bytes) (hb : b.length = 64) : Meets Tryd.prog Gt fn_sha_state_block [.ptr 1000 0 0, .sl 1 (B b)] (stM s) true (.tup []) (stM (comp s b)) := by
  refine meets_of_go mix k_sha_state_block ⟨by simp [stM, St.av], by simp, by simp [stM]⟩ ?_
  simp [stM]
  refine go_up 16 (fun j (x : List UInt32) => x = (words b).take j ++ zeros32 (64 - j)) (fun j x c => ⟨[(0, .ptr 1000 0 0), (1, .sl 1 (B b)), (4, .ptr 4 c 0), (26, .v (.int .i64 (j : Nat)))], [(4, .var c (.arr 1 (U x))), (1000, .var 0 s.av)], c + 1⟩)
    (zeros32 64) _ (Weak.re0 1000 (by simp [St.av])) (by simp) ?_ ?_
  · intro j x c hj hx
    have hw : IntKind.i64.wrap ((j : Int) + 1) = ((j + 1 : Nat) : Int) := w64_succ (by omega)
    obtain ⟨q, hq⟩ : ∃ q : Nat, q = 4 * j := ⟨_, rfl⟩
    have hw4 : IntKind.i64.wrap (4 * (j : Int)) = (q : Int) := by rw [w64_id (by omega)]; omega
    have hb64 : List.take 64 b = b := List.take_of_length_le (by omega)
    have hj16 : (j : Int) < 16 := by omega
    have hj64 : (j : Int) < 64 := by omega
    have hjn : j < 64 := by omega
    have h4 : q ≤ 64 ∧ (q : Int) ≤ 64 := by omega
    have hxl : x.length = 64 := by rw [hx]; simp; omega
    have hg : x.set j (word4 (b.getD (4 * j) 0) (b.getD (4 * j + 1) 0) (b.getD (4 * j + 2) 0) (b.getD (4 * j + 3) 0)) = (words b).take (j + 1) ++ zeros32 (64 - (j + 1)) := by
      have h1 := fill_zeros32 (words b) 64 j (by simp; omega) (by simp)
      have h2 := words_get b j hj
      rw [List.getElem?_eq_getElem (by simp; omega)] at h2
      rw [Option.some.inj h2, ← hx] at h1
      exact h1
    have hd : ∀ k, (b.drop (4 * j)).getD k 0 = b.getD (4 * j + k) 0 := fun k => by simp [List.getD_eq_getElem?_getD]
    have hc := word_meets (G := Gt) (b.drop (4 * j)) (by simp; omega)
    rw [hd, hd, hd, hd] at hc
    rw [← hq] at hd hc hg
    generalize hv : word4 (b.getD q 0) (b.getD (q + 1) 0) (b.getD (q + 2) 0) (b.getD (q + 3) 0) = v at *
    simp [hj16, hw4, hb, h4, hb64]
    refine call_intro hc ?_ ?_
    · simp
    simp [hj64, hjn, hw, hxl, U_set, Nat.mod_one, hv]
    exact ⟨_, _, Weak.re0 1000 (by simp [hg, St.av]), rfl⟩
  · intro x c hx
    simp
    refine go_up 48 (fun j (x : List UInt32) => x = grow j (words b) ++ zeros32 (48 - j)) (fun j x c => ⟨[(0, .ptr 1000 0 0), (4, .ptr 4 c 0), (6, .v (.int .i64 (i16 j)))], [(4, .var c (.arr 1 (U x))), (1000, .var 0 s.av)], c + 1⟩)
      x _ (Weak.re0 1000 (by simp [St.av])) (by rw [hx, List.take_of_length_le (by simp), grow_zero]) ?_ ?_
    · intro j x c hj hx
      have e := i16_eq j
      have e1 := i16_eq (j + 1)
      have hw : IntKind.i64.wrap (i16 j + 1) = i16 (j + 1) := by rw [w64_id (by omega)]; omega
      have a15 : IntKind.i64.wrap (i16 j - 15) = ((j + 1 : Nat) : Int) := by rw [w64_id (by omega)]; omega
      have a2 : IntKind.i64.wrap (i16 j - 2) = ((j + 14 : Nat) : Int) := by rw [w64_id (by omega)]; omega
      have a16 : IntKind.i64.wrap (i16 j - 16) = ((j : Nat) : Int) := by rw [w64_id (by omega)]; omega
      have a7 : IntKind.i64.wrap (i16 j - 7) = ((j + 9 : Nat) : Int) := by rw [w64_id (by omega)]; omega
      have hlt : i16 j < 64 := by omega
      have hge : 0 ≤ i16 j := by omega
      have htn : (i16 j).toNat = 16 + j := by omega
      have hxl : x.length = 64 := by rw [hx]; simp; omega
      obtain ⟨k1, hk1⟩ : ∃ k : Nat, k = j + 1 := ⟨_, rfl⟩
      obtain ⟨k14, hk14⟩ : ∃ k : Nat, k = j + 14 := ⟨_, rfl⟩
      obtain ⟨k9, hk9⟩ : ∃ k : Nat, k = j + 9 := ⟨_, rfl⟩
      rw [← hk1] at a15
      rw [← hk14] at a2
      rw [← hk9] at a7
      have b1 : (k1 : Int) < 64 ∧ k1 < 64 ∧ (k14 : Int) < 64 ∧ k14 < 64 ∧ (k9 : Int) < 64 ∧ k9 < 64 ∧ (j : Int) < 64 ∧ j < 64 ∧ 16 + j < 64 := by omega
      have hgl : (grow j (words b)).length = 16 + j := by simp
      have g15 := next_get (grow j (words b)) (zeros32 (48 - j)) 15 (by omega) (by omega)
      have g2 := next_get (grow j (words b)) (zeros32 (48 - j)) 2 (by omega) (by omega)
      have g16 := next_get (grow j (words b)) (zeros32 (48 - j)) 16 (by omega) (by omega)
      have g7 := next_get (grow j (words b)) (zeros32 (48 - j)) 7 (by omega) (by omega)
      rw [← hx] at g15 g2 g16 g7
      rw [hgl, show 16 + j - 15 = k1 by omega] at g15
      rw [hgl, show 16 + j - 2 = k14 by omega] at g2
      rw [hgl, show 16 + j - 16 = j by omega] at g16
      rw [hgl, show 16 + j - 7 = k9 by omega] at g7
      have hn : next (grow j (words b)) = (grow j (words b)).getD j 0 + s0 ((grow j (words b)).getD k1 0) + (grow j (words b)).getD k9 0 + s1 ((grow j (words b)).getD k14 0) := by
        unfold next
        rw [hgl, show 16 + j - 15 = k1 by omega, show 16 + j - 2 = k14 by omega, show 16 + j - 16 = j by omega, show 16 + j - 7 = k9 by omega]
      have hs := grow_set (grow j (words b)) (47 - j) (next (grow j (words b)))
      rw [show 47 - j + 1 = 48 - j by omega, ← hx, hgl, hn, show 47 - j = 48 - (j + 1) by omega, ← hn] at hs
      have e16 := (List.getElem?_eq_some_iff.1 g16).2
      have e7 := (List.getElem?_eq_some_iff.1 g7).2
      generalize (grow j (words b)).getD k1 0 = w15 at *
      generalize (grow j (words b)).getD k14 0 = w2 at *
      generalize (grow j (words b)).getD j 0 = w16 at *
      generalize (grow j (words b)).getD k9 0 = w7 at *
      simp [hlt, a15, a2, b1, g15, g2]
      refine call_intro (rot_lit w15 7 (-7) (by decide)) ?_ ?_
      · simp
      simp
      refine call_intro (rot_lit w15 18 (-18) (by decide)) ?_ ?_
      · simp
      simp [u32_xor, shr3]
      refine call_intro (rot_lit w2 17 (-17) (by decide)) ?_ ?_
      · simp
      simp
      refine call_intro (rot_lit w2 19 (-19) (by decide)) ?_ ?_
      · simp
      simp [u32_xor, shr10, a16, a7, b1, e16, e7, u32_add, hlt, hge, htn, hxl, U_set, hw]
      exact ⟨x.set (16 + j) (next (grow j (words b))), _, Weak.re0 1000 (by simp [St.av, hn, s0, s1]), hs.trans (by rw [← grow_succ])⟩
    · intro x c hx
      have hx2 : x = grow 48 (words b) := by rw [hx]; simp [zeros32]
      have hwl : (grow 48 (words b)).length = 64 := by simp
      subst hx2
      generalize hgw : grow 48 (words b) = w at *
      simp [St.av, St.list, hwl]
      obtain ⟨N, hN⟩ : ∃ N : Nat, N = 64 := ⟨_, rfl⟩
      have hNI : (N : Int) = 64 := by omega
      refine go_up N (fun _ _ => True) (fun j (_ : Unit) c => ⟨[(0, .ptr 1000 0 0), (11, wv (rounds w j s).a), (12, wv (rounds w j s).b), (13, wv (rounds w j s).c), (14, wv (rounds w j s).d), (15, wv (rounds w j s).e), (16, wv (rounds w j s).f), (17, wv (rounds w j s).g), (18, wv (rounds w j s).h), (112, .arr 1 (U w)), (113, .v (.int .i64 (j : Nat)))], [(1000, .var 0 (.arr 1 (U s.list)))], c + 1⟩)
        () _ (Weak.re0 1000 (by simp [St.list, rounds_zero])) trivial ?_ ?_
      · intro j _ c hj _
        have hw : IntKind.i64.wrap ((j : Int) + 1) = ((j + 1 : Nat) : Int) := w64_succ (by omega)
        have hj64 : (j : Int) < 64 := by omega
        have gw := getD_get w j (by omega)
        have hj : j < 64 := by omega
        have gt := getD_get table j (by rw [table_length]; exact hj)
        have ew := (List.getElem?_eq_some_iff.1 gw).2
        have et := (List.getElem?_eq_some_iff.1 gt).2
        have hr : rounds w (j + 1) s = (rounds w j s).round (table.getD j 0) (w.getD j 0) := rounds_succ w j s
        generalize table.getD j 0 = kj at *
        generalize w.getD j 0 = wj at *
        generalize rounds w j s = r at *
        simp [hj64, hwl, hj, ew, et]
        refine call_intro (rot_lit r.e 6 (-6) (by decide)) ?_ ?_
        · simp
        simp
        refine call_intro (rot_lit r.e 11 (-11) (by decide)) ?_ ?_
        · simp
        simp [u32_xor]
        refine call_intro (rot_lit r.e 25 (-25) (by decide)) ?_ ?_
        · simp
        simp [u32_xor, u32_add, u32_and, Gt, hj64, hj, ew, et]
        refine call_intro (rot_lit r.a 2 (-2) (by decide)) ?_ ?_
        · simp
        simp
        refine call_intro (rot_lit r.a 13 (-13) (by decide)) ?_ ?_
        · simp
        simp [u32_xor]
        refine call_intro (rot_lit r.a 22 (-22) (by decide)) ?_ ?_
        · simp
        simp [u32_xor, u32_add, u32_and, hw]
        exact ⟨(), _, Weak.re0 1000 (by simp [hr, St.round, St.p, St.q]), trivial⟩
      · intro _ c _
        have hcb := comp_eq s b w N hN hgw
        have hp8 := plusL_8 s (rounds w N s)
        rw [← hcb] at hp8
        clear hcb hgw hx

        generalize rounds w N s = r at *
        generalize comp s b = q at *
        simp [hNI]
        refine go_up 8 (fun _ _ => True) (fun j (_ : Unit) c => ⟨[(0, .ptr 1000 0 0), (185, .arr 1 (U r.list)), (186, .v (.int .i64 (j : Nat)))], [(1000, .var 0 (.arr 1 (U (plusL s r j))))], c + 1⟩)
          () _ (Weak.re0 1000 (by simp [plusL_0, U, St.list])) trivial ?_ ?_
        · intro j _ c hj _
          have hw : IntKind.i64.wrap ((j : Int) + 1) = ((j + 1 : Nat) : Int) := w64_succ (by omega)
          have hj8 : (j : Int) < 8 := by omega
          obtain ⟨g1, g2, g3⟩ := plusL_get s r j hj
          have e1 := (List.getElem?_eq_some_iff.1 g1).2
          have e3 := (List.getElem?_eq_some_iff.1 g3).2
          have hpl := plusL_length s r j (by omega)
          have hrl : r.list.length = 8 := rfl
          generalize s.list.getD j 0 = sj at *
          generalize r.list.getD j 0 = rj at *
          simp [hj8, hj, hpl, hrl, e1, e3]
          simp [u32_add, hw, U_set, g2]
          exact ⟨(), _, Weak.re0 1000 (by simp), trivial⟩
        · intro _ c _
          simp [hp8]
          refine post_end (.inl rfl) ?_
          simp [St.list]
end Go.Proofs.YtjlmpdbagmdbiaaDoor.WL

end
