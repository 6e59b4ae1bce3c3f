import Derived.Test.YtlajjoekbcjfnaaGreatDoorWm8
namespace Go.Proofs.YtlajjoekbcjfnaaGreatDoor.WL
set_option linter.all false
section
open Go
set_option maxHeartbeats 4000000
variable {G:Nat → Option AV}
attribute [local irreducible] sha
attribute [local irreducible] Rd.sig Rd.sig' Rd.blk Rd.blk' Rd.inn Rd.inn' Rd.dg Rd.dg' Rd.rep Rd.rep' repR
theorem I64_5 (a b c d e:Int) : [AV.v (.int .i64 a),.v (.int .i64 b),.v (.int .i64 c),.v (.int .i64 d),.v (.int .i64 e)] = I64 [a,b,c,d,e] := (rfl)
theorem JWe (a:Dg) : [dv a] = Dgs [a] := (rfl)
theorem JTn (r:Rd) : Meets Tryz.prog G JgH [.ptr 1000 0 0] (rdM 0 r) false r.sig.avS (rdM 1 r.sig') := by
 refine (JVE r).freeze ⟨by simp [rdM],by simp [rdM],by simp [rdM]⟩ ?_
 simp [rdM,Sig.avR,Sig.avS,Sig.rows]
theorem JG3 (r:Rd) : Meets Tryz.prog G Jbg [.ptr 1000 0 0] (rdM 0 r) false r.blk.avS (rdM 1 r.blk') := by
 refine (JVF r).freeze ⟨by simp [rdM],by simp [rdM],by simp [rdM]⟩ ?_
 simp [rdM,Blk.avR,Blk.avS]
theorem JZB (r:Rd) : Meets Tryz.prog G J9 [.ptr 1000 0 0] (rdM 0 r) false r.rep.avS (rdM 1 r.rep') := by
 refine (JTV r).freeze ⟨by simp [rdM],by simp [rdM],by simp [rdM]⟩ ?_
 simp [rdM,Rep.avR,Rep.avS]
theorem JOI (bs:Bytes) (v:Vote) (h:bs.length ≤ 50000000) : Meets Tryz.prog G JmF [.ptr 1000 0 0,v.av] (wrM 0 bs) true (.tup []) (wrM 1 (bs ++ v.head)) := by
 refine Jc mix JVb ⟨by simp [wrM],by simp,by simp [wrM]⟩ ?_
 have m1:=Jz (G:=G) bs [v.kind,v.epoch,v.height,v.round,v.src] (by simp; omega)
 have m2:=JT (G:=G) (bs ++ nums [v.kind,v.epoch,v.height,v.round,v.src]) [v.dg] (by rw [List.length_append,Jh]; simp; omega)
 have hb:bs ++ v.head = bs ++ nums [v.kind,v.epoch,v.height,v.round,v.src] ++ flatD [v.dg]:=by simp [Vote.head,flatD]
 rw [hb]
 generalize bs ++ nums [v.kind,v.epoch,v.height,v.round,v.src] ++ flatD [v.dg] = y2 at *
 generalize bs ++ nums [v.kind,v.epoch,v.height,v.round,v.src] = y1 at *
 simp [wrM,Vote.av]
 refine Ja m1 ?_ ?_
 ·simp [wrM,I64_5]
 simp [wrM,I64_5]
 refine Ja m2 ?_ ?_
 ·simp [wrM,JWe,dv]
 simp [wrM,JWe,dv]
 refine Jb (.inl rfl) ?_
 simp
theorem JP0 (bs:Bytes) (v:Vote) (hk:v.sig.ok = false) : Meets Tryz.prog G Jbw [.ptr 1000 0 0,v.av] (wrM 0 bs) true (.v (.bool false)) (wrM 1 bs) := by
 refine Jc mix JMu ⟨by simp [wrM],by simp,by simp [wrM]⟩ ?_
 have m1:=JPL (G:=G) [] v.sig hk
 simp [wrM,Vote.av]
 refine Ja m1 ?_ ?_
 ·simp [wrM]
 simp [wrM]
 refine Jb (.inr rfl) ?_
 simp
theorem JlW (bs:Bytes) (v:Vote) (hk:v.sig.ok = true) (h:bs.length ≤ 40000000) : Meets Tryz.prog G Jbw [.ptr 1000 0 0,v.av] (wrM 0 bs) true (.v (.bool true)) (wrM 1 (bs ++ voteF.wr v)) := by
 refine Jc mix JMu ⟨by simp [wrM],by simp,by simp [wrM]⟩ ?_
 have m1:=JmH (G:=G) [] v.sig hk (by simp)
 have m2:=JOI (G:=G) bs v (by omega)
 have hl:v.head.length = 72:=by simp [Vote.head,Jh]
 have m3:=JmH (G:=G) (bs ++ v.head) v.sig hk (by rw [List.length_append]; omega)
 rw [List.append_assoc,← JWf] at m3
 generalize bs ++ voteF.wr v = y2 at *
 generalize bs ++ v.head = y1 at *
 generalize [] ++ v.sig.bytes = y0 at *
 simp [wrM,Vote.av]
 refine Ja m1 ?_ ?_
 ·simp [wrM]
 simp [wrM]
 refine Ja m2 ?_ ?_
 ·simp [wrM,Vote.av]
 simp [wrM,Vote.av]
 refine Ja m3 ?_ ?_
 ·simp [wrM]
 simp [wrM]
 refine Jb (.inr rfl) ?_
 simp
theorem JOu (r:Rd) : Meets Tryz.prog G JmR [.ptr 1000 0 0] (rdM 0 r) false (voteF.rd r).av (rdM 1 (voteF.rd' r)) := by
 refine Jc mix JUW ⟨by simp [rdM],by simp [rdM],by simp [rdM]⟩ ?_
 rw [JQc,JTE]
 have m1:=Js (G:=G) r 1 2
 generalize r.inn 1 2 = a1 at *
 generalize r.inn' 1 2 = r1 at *
 have m2:=Js (G:=G) r1 0 1073741824
 generalize r1.inn 0 1073741824 = a2 at *
 generalize r1.inn' 0 1073741824 = r2 at *
 have m3:=Js (G:=G) r2 1 1024
 generalize r2.inn 1 1024 = a3 at *
 generalize r2.inn' 1 1024 = r3 at *
 have m4:=Js (G:=G) r3 0 1024
 generalize r3.inn 0 1024 = a4 at *
 generalize r3.inn' 0 1024 = r4 at *
 have m5:=Js (G:=G) r4 1 63
 generalize r4.inn 1 63 = a5 at *
 generalize r4.inn' 1 63 = r5 at *
 have m6:=JW (G:=G) r5
 generalize r5.dg = a6 at *
 generalize r5.dg' = r6 at *
 have m7:=JTn (G:=G) r6
 generalize r6.sig = a7 at *
 generalize r6.sig' = r7 at *
 have m8:=J2 (G:=G) r7
 simp [rdM]
 refine Ja m1 ?_ ?_
 ·simp [rdM]
 simp [rdM]
 refine Ja m2 ?_ ?_
 ·simp [rdM]
 simp [rdM]
 refine Ja m3 ?_ ?_
 ·simp [rdM]
 simp [rdM]
 refine Ja m4 ?_ ?_
 ·simp [rdM]
 simp [rdM]
 refine Ja m5 ?_ ?_
 ·simp [rdM]
 simp [rdM]
 refine Ja m6 ?_ ?_
 ·simp [rdM]
 simp [rdM]
 refine Ja m7 ?_ ?_
 ·simp [rdM]
 simp [rdM]
 refine Ja m8 ?_ ?_
 ·simp [rdM]
 simp [rdM]
 cases hb:r7.bad
 ·simp [rdM,hb]
  refine Jb (.inr rfl) ?_
  simp [Vote.av,hb,dv]
 ·simp [rdM,hb]
  refine Jb (.inr rfl) ?_
  simp [Vote.av,Vote.zero,Sig.avS,Sig.zero,hb,dv]
end
section
open Go
set_option maxHeartbeats 4000000
theorem Es_B {C:Ctx} : ∀ (bs:Bytes) (cs:List Value),Es C 1 (B bs) cs → cs = bs.map (fun b=>Value.int .u8 (b.toNat:Int))
 | [],cs,h=>by simpa [B,Es] using h
 | b :: bs,cs,h=>by
   have h':Es C 1 (bv b :: B bs) cs:=h
   simp only [Es] at h'
   obtain ⟨c1,c2,rfl,_,h1,h2⟩:=h'
   simp only [bv,V] at h1
   rw [h1.1,Es_B bs c2 h2]
   rfl
theorem V_mem {C:Ctx} {m:Mem} {cs:List Value} (h:V C m.av cs) : cs = encMem m := by
 simp only [Mem.av,V,Vs,dv] at h
 obtain ⟨c1,r1,rfl,⟨rfl,_⟩,c2,r2,rfl,⟨c3,r3,rfl,h3,c4,r4,rfl,⟨rfl,_⟩,rfl⟩,rfl⟩:=h
 rw [Es_B m.root.bs c3 h3]
 simp [encMem]
theorem J4d {C:Ctx} : ∀ (ms:List Mem) (cs:List Value),Es C 34 (Mems ms) cs → ∀ j (hj:j < ms.length) i v,(encMem ms[j])[i]? = some v → cs[j * 34 + i]? = some v := by
 intro ms cs h j hj i v hv
 have hg:=JP4 (i:=j) (x:=(ms[j]).av) h (by simp [hj])
 have e:=V_mem hg.1
 rw [← e] at hv
 have hi:i < 34:=by
  have:=(List.getElem?_eq_some_iff.1 hv).1
  rw [hg.2] at this
  exact this
 rw [List.getElem?_take_of_lt hi,List.getElem?_drop] at hv
 exact hv
def JOa : List COper := [⟨some 2,.box,[.t 0],none⟩,⟨some 3,.box,[.t 1],none⟩,⟨some 4,.alloc (.node [.v (.int .i64 0),.node [.arr 1 (rep 32 (.v (.int .u8 0))),.v (.int .i64 0)]]),[],none⟩,⟨some 5,.mov,[.c (.int .i64 0)],none⟩,⟨some 6,.mov,[.c (.bool false)],none⟩]
def JRy : List COper := [⟨some 12,.mov,[.t 7],none⟩,⟨some 13,.bin .lss,[.t 12,.c (.int .i64 0)],none⟩]
def JSt : List COper := [⟨some 14,.build [.v (.int .i64 0),.node [.arr 1 (rep 32 (.v (.int .u8 0))),.v (.int .i64 0)]] [],[],none⟩,⟨none,.store true 34,[.t 4,.t 14],none⟩,⟨some 5,.mov,[.c (.int .i64 0)],none⟩,⟨some 6,.mov,[.c (.bool false)],none⟩]
def JTh : List COper := [⟨some 15,.faddr 1 1 false,[.t 2],none⟩,⟨some 16,.load false 1,[.t 15],none⟩,⟨some 17,.mov,[.t 7],none⟩,⟨some 18,.iaddr 34,[.t 16,.t 17],none⟩,⟨some 19,.load true 34,[.t 18],none⟩,⟨some 20,.mov,[.t 7],none⟩,⟨none,.store true 34,[.t 4,.t 19],none⟩,⟨some 5,.mov,[.t 20],none⟩,⟨some 6,.mov,[.c (.bool true)],none⟩]
def JpJ : CCode := .seq (.seq (.region JRy none [2,4,7,13]) (.cond (.t 13) (.seq (.region JSt none [4,5,6]) .ret) .skip)) (.seq (.region JTh none [4,5,6]) .ret)
instance : Reg JOa [⟨some 2,.box,[.t 0],none⟩,⟨some 3,.box,[.t 1],none⟩,⟨some 4,.alloc (.node [.v (.int .i64 0),.node [.arr 1 (rep 32 (.v (.int .u8 0))),.v (.int .i64 0)]]),[],none⟩,⟨some 5,.mov,[.c (.int .i64 0)],none⟩,⟨some 6,.mov,[.c (.bool false)],none⟩] 5 := ⟨rfl,rfl⟩
instance : Reg JRy [⟨some 12,.mov,[.t 7],none⟩,⟨some 13,.bin .lss,[.t 12,.c (.int .i64 0)],none⟩] 2 := ⟨rfl,rfl⟩
instance : Reg JSt [⟨some 14,.build [.v (.int .i64 0),.node [.arr 1 (rep 32 (.v (.int .u8 0))),.v (.int .i64 0)]] [],[],none⟩,⟨none,.store true 34,[.t 4,.t 14],none⟩,⟨some 5,.mov,[.c (.int .i64 0)],none⟩,⟨some 6,.mov,[.c (.bool false)],none⟩] 4 := ⟨rfl,rfl⟩
instance : Reg JTh [⟨some 15,.faddr 1 1 false,[.t 2],none⟩,⟨some 16,.load false 1,[.t 15],none⟩,⟨some 17,.mov,[.t 7],none⟩,⟨some 18,.iaddr 34,[.t 16,.t 17],none⟩,⟨some 19,.load true 34,[.t 18],none⟩,⟨some 20,.mov,[.t 7],none⟩,⟨none,.store true 34,[.t 4,.t 19],none⟩,⟨some 5,.mov,[.t 20],none⟩,⟨some 6,.mov,[.c (.bool true)],none⟩] 9 := ⟨rfl,rfl⟩
noncomputable def seqL : Code → Code
 | .seq a _=>a
 | c=>c
noncomputable def seqR : Code → Code
 | .seq _ b=>b
 | c=>c
noncomputable def regOps : Code → Array Oper
 | .region _ ops _=>ops
 | _=>#[]
noncomputable def findBody : Code := match Tryz.f71.body with
 | some c=>c
 | none=>.skip
theorem JYX : Tryz.f71.body = some findBody := by kernel_rfl
theorem J17 : findBody = .seq (seqL findBody) (.seq (.region 1 (regOps (seqL (seqR findBody))) false) (seqR (seqR findBody))) := by kernel_rfl
theorem JZ2 : chkCode Tryz.prog 21 (seqL findBody) (.region JOa none [2,3,4,5,6]) = true := by kernel_rfl
theorem JZ4 : chkCode Tryz.prog 21 (seqR (seqR findBody)) JpJ = true := by kernel_rfl
theorem JYu : chkOper Tryz.prog (regOps (seqL (seqR findBody))) 21 ((regOps (seqL (seqR findBody)))[0]!) ⟨some 8,.faddr 1 1 false,[.t 2],none⟩ = true := by kernel_rfl
theorem J0d : chkOper Tryz.prog (regOps (seqL (seqR findBody))) 21 ((regOps (seqL (seqR findBody)))[1]!) ⟨some 9,.load false 1,[.t 8],none⟩ = true := by kernel_rfl
theorem JYM : chkOper Tryz.prog (regOps (seqL (seqR findBody))) 21 ((regOps (seqL (seqR findBody)))[4]!) ⟨some 7,.mov,[.t 11],none⟩ = true := by kernel_rfl
theorem JZg : (regOps (seqL (seqR findBody))).size = 5 := by kernel_rfl
end
section
open Go Go.Proofs Go.Shelf Go.RowKit Go.Lib
set_option maxHeartbeats 4000000
noncomputable def opsF : Array Oper := regOps (seqL (seqR findBody))
theorem J1H : opsF[2]? = some ⟨some 10,.makeFunc (.func 99) #[] #[.tmp 3],99, "config.go:46",#[],none⟩ := by kernel_rfl
theorem JWF : ∃ t p af at',opsF[3]? = some ⟨some 11,.call { callee:=.value (.func 98),args:=#[.tmp 9,.tmp 10],argTypes:=at' },t,p,af,none⟩ := by
 have h:opsF[3]? = some (opsF[3]!):=by kernel_rfl
 have h2:opsF[3]! = ⟨some 11,.call { callee:=.value (.func 98),args:=#[.tmp 9,.tmp 10],argTypes:=#[22,99] },(opsF[3]!).type,(opsF[3]!).pos,(opsF[3]!).after,none⟩:=by kernel_rfl
 exact ⟨_,_,_,_,h.trans (congrArg some h2)⟩
theorem J0a : opsF[0]? = some (opsF[0]!) := by kernel_rfl
theorem J0I : opsF[1]? = some (opsF[1]!) := by kernel_rfl
theorem JY0 : opsF[4]? = some (opsF[4]!) := by kernel_rfl
section
variable {w0:World} {Ws I0:Nat → Prop} {G:Nat → Option AV} {C0 C:Ctx}
theorem JPo {w w':World} (h:Below w.heap.size w w') : w.grownBy w' none := ⟨h.os,h.tape,h.output,h.size,fun k hk _=>h.block k hk⟩
theorem JZD {c:Conf} {id:Int} (hms:c.ms ≠ []) {g3 clk:Nat} {s:AS} {a:Act} {rem:List Nat} {Q:Exit → Act → World → Prop} {K:Act → World → Prop}
 (hm:Mid w0 Ws I0 G C0 21 clk (clk + 5) rem s a C) (h9:s.1 9 = some (.sl 34 (Mems c.ms))) (h3:s.1 3 = some (.ptr 3 g3 0)) (m3:s.2 3 = some (.var g3 (.v (.int .i64 id))))
 (hK:∀ a' C',Mid w0 Ws I0 G C0 21 clk (clk + 5) rem (upd (upd s.1 10 none) 11 (some (.v (.int .i64 (idxOf c.ms id)))),s.2) a' C' → K a' C'.w) :
 wpOp Tryz.prog opsF Q 2 (wpOp Tryz.prog opsF Q 3 K) a C.w:=by
 obtain ⟨y3,e3,v3⟩:=hm.fr 3 _ h3
 obtain ⟨y9,e9,v9⟩:=hm.fr 9 _ h9
 obtain ⟨p3,q3,_,r3⟩:=v3
 obtain rfl:y3 = .pointer (some p3):=by simpa using q3
 have hmm:C.m 3 = some (.var g3 (.v (.int .i64 id))):=by rw [hm.m]; exact m3
 obtain ⟨B,hB,rfl⟩:=r3 _ hmm
 obtain ⟨b',cur,T,k1,k2,k3⟩:=hm.wr.locs 3 _ hmm
 obtain rfl:B = b':=by rw [hB] at k1; exact Option.some.inj k1
 simp only [V] at k3
 have hcell:C.w.cell? ⟨B,0,none⟩ = some (.int .i64 id):=by
  have hcur:cur = #[.int .i64 id]:=Array.ext' k3.1
  simp [World.cell?,k2,hcur]
 have hBw:=(hm.wr.own 3 _ B hmm hB).1
 obtain ⟨ao,cap,body,q9,hlen,hcap,hes,hbk⟩:=v9
 have hmx:maxLen ≤ 9223372036854775807:=by simp [maxLen]
 obtain rfl:y9 = .slice ao (Mems c.ms).length cap:=by simpa using q9
 obtain ⟨b,o,rfl,hIb,hcs⟩:=hbk.resolve_left (by intro h; apply hms; cases hc:c.ms with | nil=>rfl | cons x l=>rw [hc] at h; cases h)
 have hbw:=(hm.wr.imm b hIb).1
 unfold wpOp
 rw [J1H]
 simp only
 rw [if_pos (by rfl)]
 left
 unfold Oper.wp
 have run2:(execOp a.eval ⟨some 10,.makeFunc (.func 99) #[] #[.tmp 3],99, "config.go:46",#[],none⟩).run Tryz.prog C.w = .ok (.value (.func (.func 99) #[] #[.pointer (some ⟨B,0,none⟩)])) C.w:=by
  have e:a.eval (.tmp 3) = .pointer (some ⟨B,0,none⟩):=by
   show a.tmps.getD 3 undef = _
   rw [Array.getD_eq_getD_getElem?,e3]; rfl
  simp [execOp,Instr.makeFunc,e]
 rw [run2,Oper.upon_value]
 obtain ⟨t,p,af,at',h3'⟩:=JWF
 rw [h3']
 simp only
 rw [if_pos (by rfl)]
 left
 have hsz:=hm.size
 have run3:(execOp (a.put (some 10) (.func (.func 99) #[] #[.pointer (some ⟨B,0,none⟩)])).eval ⟨some 11,.call { callee:=.value (.func 98),args:=#[.tmp 9,.tmp 10],argTypes:=at' },t,p,af,none⟩).run Tryz.prog C.w
  = .ok (.enter 98 #[.slice (some ⟨b,o,none⟩) (Mems c.ms).length cap,.func (.func 99) #[] #[.pointer (some ⟨B,0,none⟩)]]) C.w:=by
  have e9':(a.put (some 10) (.func (.func 99) #[] #[.pointer (some ⟨B,0,none⟩)])).eval (.tmp 9) = .slice (some ⟨b,o,none⟩) (Mems c.ms).length cap:=by
   show Array.getD _ 9 undef = _
   rw [Array.getD_eq_getD_getElem?]
   simp only [Act.put]
   rw [Array.getElem?_setIfInBounds_ne (by decide),e9]; rfl
  have e10:(a.put (some 10) (.func (.func 99) #[] #[.pointer (some ⟨B,0,none⟩)])).eval (.tmp 10) = .func (.func 99) #[] #[.pointer (some ⟨B,0,none⟩)]:=by
   show Array.getD _ 10 undef = _
   rw [Array.getD_eq_getD_getElem?]
   simp only [Act.put]
   rw [Array.getElem?_setIfInBounds_self_of_lt (by omega)]; rfl
  have e:execOp (a.put (some 10) (.func (.func 99) #[] #[.pointer (some ⟨B,0,none⟩)])).eval ⟨some 11,.call { callee:=.value (.func 98),args:=#[.tmp 9,.tmp 10],argTypes:=at' },t,p,af,none⟩ = callFunc 98 (#[] ++ #[Operand.tmp 9,.tmp 10].map (a.put (some 10) (.func (.func 99) #[] #[.pointer (some ⟨B,0,none⟩)])).eval ++ #[]):=rfl
  have eg:∀ args w,(callFunc 98 args).run Tryz.prog w = .ok (.enter 98 args) w:=enters_of Tryz.func98 (by kernel_rfl) rfl
  rw [e,eg]
  simp [e9',e10]
 rw [run3,Oper.upon_enter]
 have hl:(Mems c.ms).length = c.ms.length:=by simp
 rw [hl]
 refine Calls.mono (JVs id b o cap B c.ms C.w (by rw [← hl]; omega) hbw hBw hcell ?_) ?_
 ·intro j hj i v hv
  rw [show c.ms[j]! = c.ms[j] by simp [hj]] at hv
  have:=hcs _ v (J4d c.ms body hes j hj i v hv)
  rwa [← Nat.add_assoc] at this
 ·rintro ex w' ⟨rfl,hbel⟩
  obtain ⟨hle,hwr⟩:=hm.wr.world (JPo hbel)
  refine hK _ { C with w:=w' } ⟨hwr,hm.m,?_,hm.gr.mono hle,hm.le.trans hle,?_,?_,hm.fresh,hm.top,hm.one⟩
  ·intro u x hx
   dsimp only at hx ⊢
   by_cases e11:u = 11
   ·subst e11
    simp only [JU,Option.some.injEq] at hx
    subst hx
    refine ⟨.int .i64 (idxOf c.ms id),?_,?_⟩
    ·simp only [Act.put]
     rw [Array.getElem?_setIfInBounds_self_of_lt (by simp; omega)]
    ·simp [SV,SV1,V,Value.oneCell']
   ·rw [Jx _ _ e11] at hx
    by_cases e10:u = 10
    ·subst e10; simp at hx
    ·rw [Jx _ _ e10] at hx
     obtain ⟨z,h1,h2⟩:=(hm.fr.mono hle) u x hx
     refine ⟨z,?_,h2⟩
     simp only [Act.put]
     rw [Array.getElem?_setIfInBounds_ne (fun h=>e11 h.symm),Array.getElem?_setIfInBounds_ne (fun h=>e10 h.symm)]
     exact h1
  ·simp [Act.put,hsz]
  ·simp [Act.put,hm.defers]
end
end
section
open Go Go.Proofs Go.Shelf Go.RowKit Go.Lib
set_option maxHeartbeats 4000000
attribute [local irreducible] idxOf
section
variable {w0:World} {Ws I0:Nat → Prop} {G:Nat → Option AV} {C0 C:Ctx}
def findM (c:Conf) (id:Int) : List (Nat × Loc) := [(2,.var 2 c.av),(3,.var 3 (.v (.int .i64 id))),(4,.var 4 (.node [.v (.int .i64 0),.node [.arr 1 (rep 32 (.v (.int .u8 0))),.v (.int .i64 0)]]))]
def findS (c:Conf) (id:Int) : SA := ⟨[(2,.ptr 2 2 0),(3,.ptr 3 3 0),(4,.ptr 4 4 0),(5,.v (.int .i64 0)),(6,.v (.bool false))],findM c id,7⟩
def findT (c:Conf) (id:Int) : SA := ⟨[(2,.ptr 2 2 0),(4,.ptr 4 4 0),(7,.v (.int .i64 (idxOf c.ms id)))],findM c id,12⟩
theorem Jd4 {P:Program} {ops:Array Oper} {Q:Exit → Act → World → Prop} (i:Nat) (rest:List Nat) : wpOps P ops Q (i :: rest) = wpOp P ops Q i (wpOps P ops Q rest) := by
 funext a w
 exact wpOps_cons i rest a w
theorem JXA (c:Conf) (id:Int) : awp Tryz.prog G (.region JOa none [2,3,4,5,6]) (fun e S=>e = .normal ∧ S = findS c id) ⟨argsL 0 [c.av,.v (.int .i64 id)],[],2⟩ := by
 refine JKJ ?_
 simp [findS,findM]
theorem J1a {c:Conf} {id:Int} (hms:c.ms ≠ []) {a:Act} {w:World} {Q:Exit → Act → World → Prop} (hr:Rel w0 Ws I0 G C0 21 (findS c id) a w)
 (hK:∀ a' w',Rel w0 Ws I0 G C0 21 (findT c id) a' w' → Q .normal a' w'):(Code.region 1 opsF false).wp Tryz.prog Q a w:=by
 refine wp_region ?_
 have hs5:opsF.size = 5:=JZg
 rw [hs5,show List.range 5 = [0,1,2,3,4] from rfl]
 rw [Jd4,Jd4,Jd4,Jd4,Jd4]
 obtain ⟨hk,C,rfl,hm⟩:=hr
 have hm0:=Rel.start (n:=5) hk hm [0,1,4]
 refine JNL (rd:=[]) (us:=[]) (av:=.ptr 2 2 1) J0a JYu (by decide) (by simp) (by simp [findS]) (by simp [findS]) hm0 (.inr ⟨rfl,[.ptr 2 2 0],rfl,rfl,rfl⟩) fun a1 C1 h1=>?_
 refine JNL (rd:=[2]) (us:=[]) (av:=.sl 34 (Mems c.ms)) J0I J0d (by decide) (by simp) (by simp [findS]) (by simp [findS]) h1 (.inr ⟨rfl,[.ptr 2 2 1],rfl,by rfl,rfl⟩) fun a2 C2 h2=>?_
 refine JZD (c:=c) (id:=id) hms (g3:=3) h2 rfl rfl rfl fun a3 C3 h3=>?_
 refine JNL (rd:=[]) (us:=[]) (av:=.v (.int .i64 (idxOf c.ms id))) JY0 JYM (by decide) (by simp) (by simp [findS]) (by simp [findS]) h3 (.inr ⟨rfl,[.v (.int .i64 (idxOf c.ms id))],rfl,rfl,rfl⟩) fun a4 C4 h4=>?_
 refine hK _ _ ⟨by simp [findT],C4,rfl,h4.wr,h4.m,?_,h4.gr,h4.le,h4.size,h4.defers,by simp,fun k hk=>h4.top k hk,h4.one⟩
 intro t x hx
 have:t = 2 ∨ t = 4 ∨ t = 7:=by
  simp only [findT,look] at hx
  split at hx
  ·omega
  ·split at hx
   ·omega
   ·split at hx
    ·omega
    ·cases hx
 rcases this with rfl | rfl | rfl <;> exact h4.fr _ x hx
end
variable {G:Nat → Option AV}
theorem JVO {c:Conf} {id:Int} (hms:c.ms ≠ []) {res:AV} (hg:goodM true [] [] = true ∧ goodA true [] res = true ∧ (([]:List (Nat × Loc)).map (·.1)).Nodup)
 (h:awp Tryz.prog G JpJ (postA [.cell 4 true 34,.tmp 5,.tmp 6] res []) (findT c id)):Meets Tryz.prog G 71 [c.av,.v (.int .i64 id)] [] true res []:=by
 have hf:Tryz.prog.funcs[71]? = some Tryz.f71:=by kernel_rfl
 have hn:Tryz.f71.ntmps = 21:=by kernel_rfl
 refine JGG (rs:=[.cell 4 true 34,.tmp 5,.tmp 6]) hf JYX (by kernel_rfl) (by rw [hn]; simp) hg fun w0 Ws I0 C0 a w hr=>?_
 rw [hn] at hr ⊢
 rw [J17]
 refine wp_seq (wp_mono (JHv mix JZ2 (JXA c id) hr) ?_)
 rintro e a' w' ⟨S',⟨rfl,rfl⟩,hr'⟩
 refine wp_seq (J1a hms hr' fun a'' w'' hr''=>?_)
 exact JHv mix JZ4 h hr''
end
section
open Go
set_option maxHeartbeats 4000000
attribute [local irreducible] idxOf
variable {G:Nat → Option AV}
theorem JTQ (m:Mem) : goodA true [] m.av = true := by simp [Mem.av,dv]
theorem JRq {c:Conf} {id:Int} (hms:c.ms ≠ []) (h:idxOf c.ms id = -1) : Meets Tryz.prog G 71 [c.av,.v (.int .i64 id)] [] true (.tup [Mem.av ⟨0,Dg.zero,0⟩,.v (.int .i64 0),.v (.bool false)]) [] := by
 refine JVO hms (by simp [JTQ]) ?_
 refine JKJ ?_
 simp [JpJ,findT,findM,h]
 refine Jb (.inr rfl) ?_
 simp [Mem.av,dv]
theorem JR9 {c:Conf} {id:Int} {k:Nat} (hk:k < c.ms.length) (h:idxOf c.ms id = (k:Int)) : Meets Tryz.prog G 71 [c.av,.v (.int .i64 id)] [] true (.tup [(c.ms[k]).av,.v (.int .i64 k),.v (.bool true)]) [] := by
 refine JVO (fun e=>by rw [e] at hk; cases hk) (by simp [JTQ]) ?_
 refine JKJ ?_
 have h0:¬ ((k:Int) < 0):=by omega
 simp [JpJ,findT,findM,h,Conf.av,h0,hk]
 refine Jb (.inr rfl) ?_
 simp [Mem.av,dv]
end
section
open Go
set_option maxHeartbeats 4000000
variable {G:Nat → Option AV}
attribute [local irreducible] sha
attribute [local irreducible] Rd.sig Rd.sig' Rd.blk Rd.blk' Rd.inn Rd.inn' Rd.dg Rd.dg' Rd.rep Rd.rep' repR
theorem JUh (bs:Bytes) (p:Plan) (h:bs.length + p.blk.bytes.length ≤ 50000000) (hn:p.blk.qs.length ≤ 1000000) : Meets Tryz.prog G Jxp [.ptr 1000 0 0,p.av] (wrM 0 bs) true (.tup []) (wrM 1 (bs ++ p.head)) := by
 refine Jc mix JUp ⟨by simp [wrM],by simp,by simp [wrM]⟩ ?_
 have m1:=Jz (G:=G) bs [p.epoch,p.height,p.round,p.valid,p.src] (by simp; omega)
 have m2:=Jho (G:=G) (bs ++ nums [p.epoch,p.height,p.round,p.valid,p.src]) p.blk (by rw [List.length_append,Jh]; simp; omega) hn
 rw [List.append_assoc] at m2
 have hb:nums [p.epoch,p.height,p.round,p.valid,p.src] ++ p.blk.bytes = p.head:=rfl
 rw [hb] at m2
 generalize bs ++ p.head = y2 at *
 generalize bs ++ nums [p.epoch,p.height,p.round,p.valid,p.src] = y1 at *
 simp [wrM,Plan.av]
 refine Ja m1 ?_ ?_
 ·simp [wrM,I64_5]
 simp [wrM,I64_5]
 refine Ja m2 ?_ ?_
 ·simp [wrM]
 simp [wrM]
 refine Jb (.inl rfl) ?_
 simp
theorem JXZ (bs:Bytes) (p:Plan) (hk:p.sig.ok = false) : Meets Tryz.prog G Jbz [.ptr 1000 0 0,p.av] (wrM 0 bs) true (.v (.bool false)) (wrM 1 bs) := by
 refine Jc mix JtC ⟨by simp [wrM],by simp,by simp [wrM]⟩ ?_
 have m1:=JPL (G:=G) [] p.sig hk
 simp [wrM,Plan.av]
 refine Ja m1 ?_ ?_
 ·simp [wrM]
 simp [wrM]
 refine Jb (.inr rfl) ?_
 simp
theorem JTy (bs:Bytes) (p:Plan) (hk:p.sig.ok = true) (h:bs.length + p.blk.bytes.length ≤ 40000000) (hn:p.blk.qs.length ≤ 1000000) : Meets Tryz.prog G Jbz [.ptr 1000 0 0,p.av] (wrM 0 bs) true (.v (.bool true)) (wrM 1 (bs ++ planF.wr p)) := by
 refine Jc mix JtC ⟨by simp [wrM],by simp,by simp [wrM]⟩ ?_
 have m1:=JmH (G:=G) [] p.sig hk (by simp)
 have m2:=JUh (G:=G) bs p (by omega) hn
 have hl:p.head.length = 40 + p.blk.bytes.length:=by simp [Plan.head,Jh]
 have m3:=JmH (G:=G) (bs ++ p.head) p.sig hk (by rw [List.length_append]; omega)
 rw [List.append_assoc,← JQo] at m3
 generalize bs ++ planF.wr p = y2 at *
 generalize bs ++ p.head = y1 at *
 generalize [] ++ p.sig.bytes = y0 at *
 simp [wrM,Plan.av]
 refine Ja m1 ?_ ?_
 ·simp [wrM]
 simp [wrM]
 refine Ja m2 ?_ ?_
 ·simp [wrM,Plan.av]
 simp [wrM,Plan.av]
 refine Ja m3 ?_ ?_
 ·simp [wrM]
 simp [wrM]
 refine Jb (.inr rfl) ?_
 simp
theorem JRW (r:Rd) : Meets Tryz.prog G Jh6 [.ptr 1000 0 0] (rdM 0 r) false (planF.rd r).av (rdM 1 (planF.rd' r)) := by
 refine Jc mix JOx ⟨by simp [rdM],by simp [rdM],by simp [rdM]⟩ ?_
 rw [JQi,JR5]
 have m1:=Js (G:=G) r 0 1073741824
 generalize r.inn 0 1073741824 = a1 at *
 generalize r.inn' 0 1073741824 = r1 at *
 have m2:=Js (G:=G) r1 1 1024
 generalize r1.inn 1 1024 = a2 at *
 generalize r1.inn' 1 1024 = r2 at *
 have m3:=Js (G:=G) r2 0 1024
 have hr:=r2.inn_range 0 1024 (by omega)
 generalize r2.inn 0 1024 = a3 at *
 generalize r2.inn' 0 1024 = r3 at *
 have m4:=Js (G:=G) r3 (-1) (a3 - 1)
 generalize r3.inn (-1) (a3 - 1) = a4 at *
 generalize r3.inn' (-1) (a3 - 1) = r4 at *
 have m5:=Js (G:=G) r4 1 63
 generalize r4.inn 1 63 = a5 at *
 generalize r4.inn' 1 63 = r5 at *
 have m6:=JG3 (G:=G) r5
 generalize r5.blk = a6 at *
 generalize r5.blk' = r6 at *
 have m7:=JTn (G:=G) r6
 generalize r6.sig = a7 at *
 generalize r6.sig' = r7 at *
 have m8:=J2 (G:=G) r7
 have hw:IntKind.i64.wrap (a3 - 1) = a3 - 1:=Jp (by omega)
 simp [rdM]
 refine Ja m1 ?_ ?_
 ·simp [rdM,hw]
 simp [rdM,hw]
 refine Ja m2 ?_ ?_
 ·simp [rdM,hw]
 simp [rdM,hw]
 refine Ja m3 ?_ ?_
 ·simp [rdM,hw]
 simp [rdM,hw]
 refine Ja m4 ?_ ?_
 ·simp [rdM]
 simp [rdM]
 refine Ja m5 ?_ ?_
 ·simp [rdM]
 simp [rdM]
 refine Ja m6 ?_ ?_
 ·simp [rdM]
 simp [rdM]
 refine Ja m7 ?_ ?_
 ·simp [rdM]
 simp [rdM]
 refine Ja m8 ?_ ?_
 ·simp [rdM]
 simp [rdM]
 cases hb:r7.bad
 ·simp [rdM,hb]
  refine Jb (.inr rfl) ?_
  simp [Plan.av,hb,dv]
 ·simp [rdM,hb]
  refine Jb (.inr rfl) ?_
  simp [Plan.av,Plan.zero,Blk.avS,Blk.zero,Sig.avS,Sig.zero,hb,dv]
theorem JXo (ms:List Mem) (i:Nat) (h:i < ms.length) : memsB (ms.take (i + 1)) = memsB (ms.take i) ++ memB ms[i] := by
 rw [List.take_succ_eq_append_getElem h]
 unfold memsB
 rw [List.flatMap_append]
 simp only [List.flatMap_cons,List.flatMap_nil,List.append_nil]
theorem J0T (m:Mem) : (memB m).length = 48 := by simp [memB,Jh]
theorem JO0 (ms:List Mem) : (memsB ms).length = 48 * ms.length := by
 induction ms with
 | nil=>rfl
 | cons m ms ih =>
   show (memB m ++ memsB ms).length = _
   rw [List.length_append,J0T,ih,List.length_cons]
   omega
theorem JLF (bs:Bytes) (c:Conf) (h:bs.length ≤ 50000000) (hn:c.ms.length ≤ 1000) : Meets Tryz.prog G Je1 [.ptr 1000 0 0,c.av] (wrM 0 bs) true (.tup []) (wrM 1 (bs ++ c.bytes)) := by
 refine Jc mix JPf ⟨by simp [wrM],by simp,by simp [wrM]⟩ ?_
 have m1:=Jz (G:=G) bs [c.epoch,(c.ms.length:Int)] (by simp; omega)
 have hy:(bs ++ nums [c.epoch,(c.ms.length:Int)]).length = bs.length + 16:=by rw [List.length_append,Jh]; simp
 have hb:bs ++ c.bytes = bs ++ nums [c.epoch,(c.ms.length:Int)] ++ memsB c.ms:=by simp [Conf.bytes]
 rw [hb]
 generalize bs ++ nums [c.epoch,(c.ms.length:Int)] = y at *
 generalize hms:c.ms = ms at *
 have hlen:=JO0 ms
 simp [wrM,Conf.av,hms]
 refine Ja m1 ?_ ?_
 ·simp [wrM,I64_2]
 simp [wrM,I64_2]
 obtain ⟨F,hF⟩:∃ F:Nat → Bytes,∀ i,F i = y ++ memsB (ms.take i):=⟨_,fun _=>rfl⟩
 have hF0:y = F 0:=by rw [hF]; simp [memsB]
 have hFN:y ++ memsB ms = F ms.length:=by rw [hF,List.take_length]
 have hFl:∀ i,i ≤ ms.length → (F i).length = y.length + 48 * i:=by intro i hi; rw [hF,List.length_append,JO0,List.length_take]; omega
 have hFlN:(F ms.length).length = y.length + 48 * ms.length:=hFl _ (Nat.le_refl _)
 have hy0:=hy
 have h0l:(F 0).length = y.length:=by rw [← hF0]
 rw [hFN]
 rw [hF0] at hy ⊢
 refine go_up ms.length (fun j (_:Unit)=>True) (fun j _ c=>⟨[(0,.ptr 1000 0 0),(15,.sl 34 (Mems ms)),(16,.v (.int .i64 (ms.length:Nat))),(17,.v (.int .i64 (j:Nat)))],[(1000,.var 0 (.node [.row 2000 1 c 0 (F j).length])),(2000,.rows c 1 (B (F j)))],c + 1⟩) () _ (Weak.re0 1000 (by simp)) trivial ?_ ?_
 ·intro j _ c hj _
  have hw:IntKind.i64.wrap ((j:Int) + 1) = ((j + 1:Nat):Int):=Jf (by omega)
  have hlj:=hFl j (by omega)
  have hFs:F j ++ memB ms[j] = F (j + 1):=by rw [hF,hF,JXo ms j hj,List.append_assoc]
  have m4:=Jz (G:=G) (F j) [ms[j].id,ms[j].height] (by simp; omega)
  have m5:=JT (G:=G) (F j ++ nums [ms[j].id,ms[j].height]) [ms[j].root] (by rw [List.length_append,Jh]; simp; omega)
  have e:F j ++ nums [ms[j].id,ms[j].height] ++ flatD [ms[j].root] = F (j + 1):=by rw [← hFs]; simp [memB,flatD]
  rw [e] at m5
  generalize F j ++ nums [ms[j].id,ms[j].height] = x1 at *
  simp [hj,Mem.av,dv]
  refine Ja m4 ?_ ?_
  ·simp [wrM,I64_2]
  simp [wrM,I64_2]
  refine Ja m5 ?_ ?_
  ·simp [wrM,Dgs_1]
  simp [wrM,Dgs_1]
  simp [hw]
  exact ⟨(),_,Weak.re0 1000 (by simp),trivial⟩
 ·intro _ c _
  simp
  refine Jb (.inl rfl) ?_
  simp [hFlN,h0l,hlen]
theorem JVg (r:Rd) : Meets Tryz.prog G Jm6 [.ptr 1000 0 0] (rdM 0 r) false (confF.rd r).av (rdM 1 (confF.rd' r)) := by
 refine Jc mix JQJ ⟨by simp [rdM],by simp [rdM],by simp [rdM]⟩ ?_
 rw [JRg,JS7]
 have hN:((r.confN:Nat):Int) = (r.inn' 0 1073741824).inn 1 10 ∧ r.confN ≤ 10:=by
  have:(0:Int) ≤ (r.inn' 0 1073741824).inn 1 10 ∧ (r.inn' 0 1073741824).inn 1 10 ≤ 10:=by
   unfold Rd.inn Rd.inOk
   split
   ·rename_i k
    simp only [Bool.and_eq_true,decide_eq_true_eq] at k
    omega
   ·omega
  unfold Rd.confN
  omega
 obtain ⟨hN,hN2⟩:=hN
 generalize r.confN = N at *
 have m1:=Js (G:=G) r 0 1073741824
 generalize r.inn 0 1073741824 = a1 at *
 generalize r.inn' 0 1073741824 = r1 at *
 have m2:=Js (G:=G) r1 1 10
 rw [← hN] at m2
 clear hN
 generalize r1.inn' 1 10 = r2 at *
 simp [rdM]
 refine Ja m1 ?_ ?_
 ·simp [rdM]
 simp [rdM]
 refine Ja m2 ?_ ?_
 ·simp [rdM]
 simp [rdM]
 obtain ⟨L,hL⟩:∃ L:Nat → List Mem,∀ i,L i = (repR memF r2 i).1:=⟨_,fun _=>rfl⟩
 obtain ⟨R,hR⟩:∃ R:Nat → Rd,∀ i,R i = (repR memF r2 i).2:=⟨_,fun _=>rfl⟩
 have hL0:L 0 = []:=by rw [hL]; simp only [repR]
 have hR0:r2 = R 0:=by rw [hR]; simp only [repR]
 have hLl:∀ i,(L i).length = i:=fun i=>by rw [hL]; exact JQ memF r2 i
 rw [← hL,← hR]
 rw [hR0]
 refine go_up N (fun j (_:Unit)=>lastId (L j) ≤ 63 ∧ 0 ≤ lastId (L j)) (fun j _ c=>⟨[(0,.ptr 1000 0 0),(2,.ptr 2 c 0),(3,.ptr 3 c 0),(4,.v (.int .i64 (lastId (L j)))),(10,.v (.int .i64 (N:Nat))),(11,.v (.int .i64 (j:Nat)))],
  [(2,.var c (.node [.v (.int .i64 0),.v (.slice none 0 0)])),(3,.var c (.node [.v (.int .i64 a1),.row 28 34 c 0 j])),(28,.rows c 34 (Mems (L j))),
   (1000,.var 0 (.node [.row 2000 1 c (R j).pre.length (R j).s.length,.v (.bool (R j).bad)])),(2000,.rows c 1 (B ((R j).pre ++ (R j).s)))],c + 1⟩) () _ (Weak.re0 1000 (by simp [hL0])) (by simp [hL0]) ?_ ?_
 ·intro j _ c hj hlast
  have hw:IntKind.i64.wrap ((j:Int) + 1) = ((j + 1:Nat):Int):=Jf (by omega)
  have f1:fitsB (j + 1) 48:=fits (by omega) (by omega)
  have e1:L (j + 1) = L j ++ [(memF (L j)).rd (R j)]:=by rw [hL,hL,hR]; simp only [repR]
  have e2:R (j + 1) = (memF (L j)).rd' (R j):=by rw [hR,hL,hR]; simp only [repR]
  have e3:∀ l r,(memF l).rd r = ⟨r.inn (lastId l + 1) 63,((r.inn' (lastId l + 1) 63).inn' 0 6).dg,(r.inn' (lastId l + 1) 63).inn 0 6⟩:=fun _ _=>rfl
  have e4:∀ l r,(memF l).rd' r = ((r.inn' (lastId l + 1) 63).inn' 0 6).dg':=fun _ _=>rfl
  rw [e3] at e1
  rw [e4] at e2
  have hlj:=hLl j
  have hw2:IntKind.i64.wrap (lastId (L j) + 1) = lastId (L j) + 1:=Jp (by omega)
  generalize hln:lastId (L j) = ln at *
  have hri:(R j).inn (ln + 1) 63 ≤ 63 ∧ 0 ≤ (R j).inn (ln + 1) 63:=by
   unfold Rd.inn Rd.inOk
   split
   ·rename_i k
    simp only [Bool.and_eq_true,decide_eq_true_eq] at k
    omega
   ·omega
  generalize R j = q at *
  have m3:=Js (G:=G) q (ln + 1) 63
  generalize q.inn (ln + 1) 63 = b1 at *
  generalize q.inn' (ln + 1) 63 = q1 at *
  have m4:=Js (G:=G) q1 0 6
  generalize q1.inn 0 6 = b2 at *
  generalize q1.inn' 0 6 = q2 at *
  have m5:=JW (G:=G) q2
  generalize q2.dg = b3 at *
  generalize q2.dg' = q3 at *
  generalize L j = x at *
  have hS:=JSx x ⟨b1,b3,b2⟩
  simp only [Mem.av,dv] at hS
  simp [hj,rdM,hw2]
  refine Ja m3 ?_ ?_
  ·simp [rdM]
  simp [rdM]
  refine Ja m4 ?_ ?_
  ·simp [rdM]
  simp [rdM]
  refine Ja m5 ?_ ?_
  ·simp [rdM]
  simp [rdM,f1,hlj,hS,dv]
  simp [hw]
  refine ⟨(),_,Weak.re0 1000 (by simp [e1,e2]),?_⟩
  show lastId (L (j + 1)) ≤ 63 ∧ 0 ≤ lastId (L (j + 1))
  rw [e1,JO3]
  exact hri
 ·intro _ c hlast
  have hlN:=hLl N
  generalize R N = q at *
  generalize L N = x at *
  have m8:=J2 (G:=G) q
  have htx:List.take N x = x:=List.take_of_length_le (by omega)
  simp [rdM]
  refine Ja m8 ?_ ?_
  ·simp [rdM]
  simp [rdM]
  cases hb:q.bad
  ·simp [rdM,hb]
   refine Jb (.inr rfl) ?_
   simp [Conf.av,hb,hlN,htx]
  ·simp [rdM,hb]
   refine Jb (.inr rfl) ?_
   simp [Conf.av,Conf.zero,hb]
end
section
open Go
set_option maxHeartbeats 4000000
theorem JYv {G:Nat → Option AV} (x:UInt32) (r:Nat) (h:0 < r ∧ r < 32) : Meets Tryz.prog G Jl [wv x,.v (.int .i64 (-(r:Int)))] [] true (wv (rotr x r)) [] := by
 refine Jc mix JGc ⟨by simp,by simp,by simp⟩ ?_
 have h1:bitsOp .and .u64 (IntKind.u64.wrap (-(r:Int))) 31 = ((32 - r:Nat):Int):=by
  obtain ⟨k,rfl⟩:∃ k:Fin 32,r = k.val:=⟨⟨r,h.2⟩,rfl⟩
  revert h
  revert k
  decide +kernel
 have h2:(0:Int) ≤ ((32 - r:Nat):Int):=by omega
 have h3:IntKind.u64.wrap (32 - ((32 - r:Nat):Int)) = (r:Int):=by rw [JJG (by omega)]; omega
 have h4:min (32 - r) 32 = 32 - r:=by omega
 have h5:min r 32 = r:=by omega
 have h6:=JRa x (32 - r) (by omega)
 have h7:=JNY x r h.2
 have h8:(x <<< UInt32.ofNat (32 - r)) ||| (x >>> UInt32.ofNat r) = rotr x r:=UInt32.or_comm _ _
 simp [h1,h2,h3,h4,h5,h6,h7,J18,h8]
 refine Jb (.inr rfl) ?_
 simp
theorem JXu {G:Nat → Option AV} (b:Bytes) (h:4 ≤ b.length) : Meets Tryz.prog G JGa [.sl 1 (B b)] [] true (wv (word4 (b.getD 0 0) (b.getD 1 0) (b.getD 2 0) (b.getD 3 0))) [] := by
 refine Jc mix JXp ⟨by simp,by simp,by simp⟩ ?_
 match b,h with
 | a :: b :: c :: d :: r,_ =>
   have h1:=JRa a.toUInt32 24 (by decide)
   have h2:=JRa b.toUInt32 16 (by decide)
   have h3:=JRa c.toUInt32 8 (by decide)
   simp only [Int.reducePow] at h1 h2 h3
   simp [J00,h1,h2,h3,J18]
   refine Jb (.inr rfl) ?_
   simp [word4]
end
end Go.Proofs.YtlajjoekbcjfnaaGreatDoor.WL
