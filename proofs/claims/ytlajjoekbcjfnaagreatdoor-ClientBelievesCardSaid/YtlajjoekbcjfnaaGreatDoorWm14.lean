import Derived.Test.YtlajjoekbcjfnaaGreatDoorWm13
namespace Go.Proofs.YtlajjoekbcjfnaaGreatDoor.WL
set_option linter.all false
section
open Go
set_option maxHeartbeats 4000000
variable {G:Nat → Option AV}
attribute [local irreducible] sha
attribute [local irreducible] Rd.sig Rd.sig' Rd.blk Rd.blk' Rd.inn Rd.inn' Rd.dg Rd.dg' Rd.rep Rd.rep' Rd.text Rd.text' Rd.req Rd.req' repR
theorem JZS (r:Rd) : ((r.pcN:Nat):Int) = ((r.inn' 0 1024).inn' 0 1024).inn 0 16 ∧ r.pcN ≤ 16 := by
 have:=((r.inn' 0 1024).inn' 0 1024).inn_range 0 16 (by omega)
 unfold Rd.pcN
 omega
theorem JVz (r:Rd) : Meets Tryz.prog G Jp6 [.ptr 1000 0 0] (rdM 0 r) false (pieceF.rd r).av (rdM 1 (pieceF.rd' r)) := by
 refine Jc mix JS2 ⟨by simp [rdM],by simp [rdM],by simp [rdM]⟩ ?_
 rw [JN9,JP5]
 obtain ⟨hN,hN2⟩:=JZS r
 generalize r.pcN = N at *
 have m1:=Js (G:=G) r 0 1024
 generalize r.inn 0 1024 = a1 at *
 generalize r.inn' 0 1024 = r1 at *
 have m2:=Js (G:=G) r1 0 1024
 generalize r1.inn 0 1024 = a2 at *
 generalize r1.inn' 0 1024 = r2 at *
 have m3:=Js (G:=G) r2 0 16
 rw [← hN] at m3
 clear hN
 generalize r2.inn' 0 16 = r3 at *
 have m4:=JW (G:=G) r3
 generalize r3.dg = a4 at *
 generalize r3.dg' = r4 at *
 have m6:=JoL (G:=G) (r4.ds' N) 1024
 generalize ht:(r4.ds' N).text 1024 = a6 at *
 generalize ht':(r4.ds' N).text' 1024 = r6 at *
 simp [rdM]
 refine Ja m1 ?_ ?_
 ·simp [rdM]
 simp [rdM]
 refine Ja m2 ?_ ?_
 ·simp [rdM]
 simp [rdM]
 refine Ja m3 ?_ ?_
 ·simp [rdM]
 simp [rdM]
 refine Ja m4 ?_ ?_
 ·simp [rdM]
 simp [rdM,dv]
 obtain ⟨L,hL⟩:∃ L:Nat → List Dg,∀ i,L i = r4.ds i:=⟨_,fun _=>rfl⟩
 obtain ⟨R,hR⟩:∃ R:Nat → Rd,∀ i,R i = r4.ds' i:=⟨_,fun _=>rfl⟩
 have hL0:L 0 = []:=by rw [hL]; rfl
 have hR0:r4 = R 0:=by rw [hR]; rfl
 have hLl:∀ i,(L i).length = i:=fun i=>by rw [hL]; exact r4.ds_length i
 have hLs:∀ i,L (i + 1) = L i ++ [(R i).dg]:=fun i=>by rw [hL,hL,hR]; rfl
 have hRs:∀ i,R (i + 1) = (R i).dg':=fun i=>by rw [hR,hR]; rfl
 rw [← hL]
 rw [← hR] at m6
 clear hL hR
 rw [hR0]
 refine go_up N (fun j (_:Unit)=>True) (fun j _ c=>⟨[(0,.ptr 1000 0 0),(2,.ptr 2 c 0),(3,.ptr 3 c 0),(15,.v (.int .i64 (N:Nat))),(16,.v (.int .i64 (j:Nat)))],
  [(2,.var c (.node [.v (.int .i64 0),.v (.int .i64 0),dv Dg.zero,.v (.string (mkS [])),.v (.slice none 0 0)])),(3,.var c (.node [.v (.int .i64 a1),.v (.int .i64 a2),dv a4,.v (.string (mkS [])),.row 23 32 c 0 j])),(23,.rows c 32 (Dgs (L j))),
   (1000,.var 0 (.node [.row 2000 1 c (R j).pre.length (R j).s.length,.v (.bool (R j).bad)])),(2000,.rows c 1 (B ((R j).pre ++ (R j).s)))],c + 1⟩) () _ (Weak.re0 1000 (by simp [hL0,dv])) trivial ?_ ?_
 ·intro j _ c hj _
  have hw:IntKind.i64.wrap ((j:Int) + 1) = ((j + 1:Nat):Int):=Jf (by omega)
  have f1:fitsB (j + 1) 32:=fits (by omega) (by omega)
  have e1:=hLs j
  have e2:=hRs j
  have hlj:=hLl j
  generalize R j = q at *
  have m5:=JW (G:=G) q
  generalize q.dg = b at *
  generalize q.dg' = q1 at *
  generalize L j = x at *
  have hS:=Jlh x b
  simp only [dv] at hS
  simp [hj,dv]
  refine Ja m5 ?_ ?_
  ·simp [rdM]
  simp [rdM,f1,hlj,hS,dv]
  simp [hw]
  exact ⟨(),_,Weak.re0 1000 (by simp [e1,e2,dv]),trivial⟩
 ·intro _ c _
  have hlN:=hLl N
  generalize R N = q at *
  generalize L N = x at *
  have htx:List.take N x = x:=List.take_of_length_le (by omega)
  simp [dv]
  refine Ja m6 ?_ ?_
  ·simp [rdM]
  simp [rdM,dv]
  refine Jb (.inr rfl) ?_
  simp [Piece.av,hlN,htx,dv]
theorem JTR (r:Rd) : Meets Tryz.prog G JzB [.ptr 1000 0 0] (rfM r) false (pieceF.rd r).av (rfM (pieceF.rd' r)) := by
 refine Jc mix JUK ⟨by simp [rfM],by simp [rfM],by simp [rfM]⟩ ?_
 rw [JN9,JP5]
 obtain ⟨hN,hN2⟩:=JZS r
 generalize r.pcN = N at *
 have m1:=Jo (G:=G) r 0 1024
 generalize r.inn 0 1024 = a1 at *
 generalize r.inn' 0 1024 = r1 at *
 have m2:=Jo (G:=G) r1 0 1024
 generalize r1.inn 0 1024 = a2 at *
 generalize r1.inn' 0 1024 = r2 at *
 have m3:=Jo (G:=G) r2 0 16
 rw [← hN] at m3
 clear hN
 generalize r2.inn' 0 16 = r3 at *
 have m4:=J0 (G:=G) r3
 generalize r3.dg = a4 at *
 generalize r3.dg' = r4 at *
 have m6:=JjU (G:=G) (r4.ds' N) 1024
 generalize ht:(r4.ds' N).text 1024 = a6 at *
 generalize ht':(r4.ds' N).text' 1024 = r6 at *
 simp [rfM]
 refine Ja m1 ?_ ?_
 ·simp [rfM]
 simp [rfM]
 refine Ja m2 ?_ ?_
 ·simp [rfM]
 simp [rfM]
 refine Ja m3 ?_ ?_
 ·simp [rfM]
 simp [rfM]
 refine Ja m4 ?_ ?_
 ·simp [rfM]
 simp [rfM,dv]
 obtain ⟨L,hL⟩:∃ L:Nat → List Dg,∀ i,L i = r4.ds i:=⟨_,fun _=>rfl⟩
 obtain ⟨R,hR⟩:∃ R:Nat → Rd,∀ i,R i = r4.ds' i:=⟨_,fun _=>rfl⟩
 have hL0:L 0 = []:=by rw [hL]; rfl
 have hR0:r4 = R 0:=by rw [hR]; rfl
 have hLl:∀ i,(L i).length = i:=fun i=>by rw [hL]; exact r4.ds_length i
 have hLs:∀ i,L (i + 1) = L i ++ [(R i).dg]:=fun i=>by rw [hL,hL,hR]; rfl
 have hRs:∀ i,R (i + 1) = (R i).dg':=fun i=>by rw [hR,hR]; rfl
 rw [← hL]
 rw [← hR] at m6
 clear hL hR
 rw [hR0]
 refine go_up N (fun j (_:Unit)=>True) (fun j _ c=>⟨[(0,.ptr 1000 0 0),(2,.ptr 2 c 0),(3,.ptr 3 c 0),(4,.v (.int .i64 (N:Nat))),(5,.v (.int .i64 (j:Nat)))],
  [(2,.var c (.node [.v (.int .i64 0),.v (.int .i64 0),dv Dg.zero,.v (.string (mkS [])),.v (.slice none 0 0)])),(3,.var c (.node [.v (.int .i64 a1),.v (.int .i64 a2),dv a4,.v (.string (mkS [])),.row 27 32 c 0 j])),(27,.rows c 32 (Dgs (L j))),
   (1000,.var 0 (.node [.v (.string (mkS (R j).s)),.v (.bool (R j).bad)]))],c + 1⟩) () _ (Weak.re0 1000 (by simp [hL0,dv])) trivial ?_ ?_
 ·intro j _ c hj _
  have hw:IntKind.i64.wrap ((j:Int) + 1) = ((j + 1:Nat):Int):=Jf (by omega)
  have f1:fitsB (j + 1) 32:=fits (by omega) (by omega)
  have e1:=hLs j
  have e2:=hRs j
  have hlj:=hLl j
  generalize R j = q at *
  have m5:=J0 (G:=G) q
  generalize q.dg = b at *
  generalize q.dg' = q1 at *
  generalize L j = x at *
  have hS:=Jlh x b
  simp only [dv] at hS
  simp [hj,dv]
  refine Ja m5 ?_ ?_
  ·simp [rfM]
  simp [rfM,f1,hlj,hS,dv]
  simp [hw]
  exact ⟨(),_,Weak.re0 1000 (by simp [e1,e2,dv]),trivial⟩
 ·intro _ c _
  have hlN:=hLl N
  generalize R N = q at *
  generalize L N = x at *
  have htx:List.take N x = x:=List.take_of_length_le (by omega)
  simp [dv]
  refine Ja m6 ?_ ?_
  ·simp [rfM]
  simp [rfM,dv]
  refine Jb (.inr rfl) ?_
  simp [Piece.av,hlN,htx,dv]
end
section
open Go
set_option maxHeartbeats 8000000
variable {G:Nat → Option AV}
attribute [local irreducible] sha
attribute [local irreducible] Rd.sig Rd.sig' Rd.blk Rd.blk' Rd.inn Rd.inn' Rd.dg Rd.dg' Rd.rep Rd.rep' Rd.text Rd.text' Rd.req Rd.req' repR
theorem J23 {b:Bytes} (h:¬ 262144 < b.length) : decM b = (if (bodyRd' ((Rd.of b).inn 1 9) ((Rd.of b).inn' 1 9)).done = true then bodyRd ((Rd.of b).inn 1 9) ((Rd.of b).inn' 1 9) else Mail.zero) ∧
 decE b = (if (bodyRd' ((Rd.of b).inn 1 9) ((Rd.of b).inn' 1 9)).done = true then 0 else 4):=by
 unfold decM decE
 rw [if_neg h,if_neg h]
 exact ⟨rfl,rfl⟩
theorem count1024 (r:Rd) : (0:Int) ≤ r.inn 0 1024 ∧ r.inn 0 1024 ≤ 1024 := r.inn_range 0 1024 (by omega)
theorem JPG (r:Rd) : linksF.rd' r = (repR (fun _=>linkF) (r.inn' 0 1024) (r.inn 0 1024).toNat).2 := rfl
theorem JOA (r:Rd) : linksF.rd r = (repR (fun _=>linkF) (r.inn' 0 1024) (r.inn 0 1024).toNat).1 := rfl
theorem JOh (r:Rd) : piecesF.rd' r = (repR (fun _=>pieceF) (r.inn' 0 1024) (r.inn 0 1024).toNat).2 := rfl
theorem JKS (r:Rd) : piecesF.rd r = (repR (fun _=>pieceF) (r.inn' 0 1024) (r.inn 0 1024).toNat).1 := rfl
theorem Jhl (b:Bytes) (hb:b.length ≤ 1000000) : Meets Tryz.prog G JbH [.sl 1 (B b)] [] false (.tup [(decM b).av,.v (.int .i64 (decE b))]) [] := by
 refine Jc mix JQd ⟨by simp,by simp,by simp⟩ ?_
 by_cases hl:262144 < b.length
 ·have hli:(262144:Int) < (b.length:Nat):=by omega
  have e1:decM b = Mail.zero:=by unfold decM; rw [if_pos hl]
  have e2:decE b = 3:=by unfold decE; rw [if_pos hl]
  rw [e1,e2]
  simp [hl,hli]
  refine Jb (.inr rfl) ?_
  simp [Mail.av,Mail.zero,Plan.av,Plan.zero,Vote.av,Vote.zero,Req.av,Req.zero,Chg.av,Chg.zero,Rep.avS,Rep.zero,Blk.avS,Blk.zero,Cert.av,Cert.zero,Sig.avS,Sig.zero,dv]
 have hli:¬ (262144:Int) < (b.length:Nat):=by omega
 obtain ⟨e1,e2⟩:=J23 hl
 rw [e1,e2]
 clear e1 e2
 have m0:=JWI (G:=G) b (fits (by omega) (by omega))
 have m1:=Js (G:=G) (Rd.of b) 1 9
 have hofs:(Rd.of b).s = b ∧ (Rd.of b).pre = [] ∧ (Rd.of b).bad = false:=⟨rfl,rfl,rfl⟩
 have hflt:((Rd.of b).inn' 1 9).flt:=Rd.flt_inn _ _ _
 have htb:List.take b.length b = b:=List.take_of_length_le (by omega)
 generalize (Rd.of b).inn 1 9 = k at *
 generalize (Rd.of b).inn' 1 9 = r1 at *
 simp [hl,hli]
 refine Ja m0 ?_ ?_
 ·simp
 simp
 refine Ja m1 ?_ ?_
 ·simp [rdM,hofs]
 simp [rdM,hofs]
 by_cases k1:k = 1
 ·have m2:=JRW (G:=G) r1
  have eb:bodyRd' k r1 = planF.rd' r1:=by simp [bodyRd',k1]
  have ev:bodyRd k r1 = { Mail.zero with kind:=k,plan:=planF.rd r1 }:=by simp [bodyRd,k1]
  rw [eb,ev]
  clear eb ev
  generalize planF.rd r1 = p at *
  generalize planF.rd' r1 = r2 at *
  have m3:=Jbr (G:=G) r2
  simp [rdM,k1]
  refine Ja m2 ?_ ?_
  ·simp [rdM]
  simp [rdM]
  refine Ja m3 ?_ ?_
  ·simp [rdM]
  simp [rdM]
  cases hd:r2.done
  ·simp [rdM]
   refine Jb (.inr rfl) ?_
   simp [Mail.av,Mail.zero,Plan.av,Plan.zero,Vote.av,Vote.zero,Req.av,Req.zero,Chg.av,Chg.zero,Rep.avS,Rep.zero,Blk.avS,Blk.zero,Cert.av,Cert.zero,Sig.avS,Sig.zero,dv]
  ·simp [rdM]
   refine Jb (.inr rfl) ?_
   simp [Mail.av,Mail.zero,Plan.av,Plan.zero,Vote.av,Vote.zero,Req.av,Req.zero,Chg.av,Chg.zero,Rep.avS,Rep.zero,Blk.avS,Blk.zero,Cert.av,Cert.zero,Sig.avS,Sig.zero,dv]
 by_cases k2:k = 2
 ·have m2:=JOu (G:=G) r1
  have eb:bodyRd' k r1 = voteF.rd' r1:=by simp [bodyRd',k2]
  have ev:bodyRd k r1 = { Mail.zero with kind:=k,vote:=voteF.rd r1 }:=by simp [bodyRd,k2]
  rw [eb,ev]
  clear eb ev
  generalize voteF.rd r1 = p at *
  generalize voteF.rd' r1 = r2 at *
  have m3:=Jbr (G:=G) r2
  simp [rdM,k1,k2]
  refine Ja m2 ?_ ?_
  ·simp [rdM]
  simp [rdM]
  refine Ja m3 ?_ ?_
  ·simp [rdM]
  simp [rdM]
  cases hd:r2.done
  ·simp [rdM]
   refine Jb (.inr rfl) ?_
   simp [Mail.av,Mail.zero,Plan.av,Plan.zero,Vote.av,Vote.zero,Req.av,Req.zero,Chg.av,Chg.zero,Rep.avS,Rep.zero,Blk.avS,Blk.zero,Cert.av,Cert.zero,Sig.avS,Sig.zero,dv]
  ·simp [rdM]
   refine Jb (.inr rfl) ?_
   simp [Mail.av,Mail.zero,Plan.av,Plan.zero,Vote.av,Vote.zero,Req.av,Req.zero,Chg.av,Chg.zero,Rep.avS,Rep.zero,Blk.avS,Blk.zero,Cert.av,Cert.zero,Sig.avS,Sig.zero,dv]
 by_cases k3:k = 3
 ·have m2:=JOR (G:=G) r1
  have eb:bodyRd' k r1 = r1.req':=by simp [bodyRd',k3]
  have ev:bodyRd k r1 = { Mail.zero with kind:=k,req:=r1.req }:=by simp [bodyRd,k3]
  rw [eb,ev]
  clear eb ev
  generalize r1.req = p at *
  generalize r1.req' = r2 at *
  have m3:=Jbr (G:=G) r2
  simp [rdM,k1,k2,k3]
  refine Ja m2 ?_ ?_
  ·simp [rdM]
  simp [rdM]
  refine Ja m3 ?_ ?_
  ·simp [rdM]
  simp [rdM]
  cases hd:r2.done
  ·simp [rdM]
   refine Jb (.inr rfl) ?_
   simp [Mail.av,Mail.zero,Plan.av,Plan.zero,Vote.av,Vote.zero,Req.av,Req.zero,Chg.av,Chg.zero,Rep.avS,Rep.zero,Blk.avS,Blk.zero,Cert.av,Cert.zero,Sig.avS,Sig.zero,dv]
  ·simp [rdM]
   refine Jb (.inr rfl) ?_
   simp [Mail.av,Mail.zero,Plan.av,Plan.zero,Vote.av,Vote.zero,Req.av,Req.zero,Chg.av,Chg.zero,Rep.avS,Rep.zero,Blk.avS,Blk.zero,Cert.av,Cert.zero,Sig.avS,Sig.zero,dv]
 by_cases k4:k = 4
 ·have m2:=Js (G:=G) r1 0 1024
  have m4:=JZB (G:=G) (r1.inn' 0 1024)
  have eb:bodyRd' k r1 = (r1.inn' 0 1024).rep':=by simp [bodyRd',k4]
  have ev:bodyRd k r1 = { Mail.zero with kind:=k,height:=r1.inn 0 1024,rep:=(r1.inn' 0 1024).rep }:=by simp [bodyRd,k4]
  rw [eb,ev]
  clear eb ev
  generalize r1.inn 0 1024 = h at *
  generalize r1.inn' 0 1024 = r2 at *
  generalize r2.rep = p at *
  generalize r2.rep' = r3 at *
  have m3:=Jbr (G:=G) r3
  simp [rdM,k1,k2,k3,k4]
  refine Ja m2 ?_ ?_
  ·simp [rdM]
  simp [rdM]
  refine Ja m4 ?_ ?_
  ·simp [rdM]
  simp [rdM]
  refine Ja m3 ?_ ?_
  ·simp [rdM]
  simp [rdM]
  cases hd:r3.done
  ·simp [rdM]
   refine Jb (.inr rfl) ?_
   simp [Mail.av,Mail.zero,Plan.av,Plan.zero,Vote.av,Vote.zero,Req.av,Req.zero,Chg.av,Chg.zero,Rep.avS,Rep.zero,Blk.avS,Blk.zero,Cert.av,Cert.zero,Sig.avS,Sig.zero,dv]
  ·simp [rdM]
   refine Jb (.inr rfl) ?_
   simp [Mail.av,Mail.zero,Plan.av,Plan.zero,Vote.av,Vote.zero,Req.av,Req.zero,Chg.av,Chg.zero,Rep.avS,Rep.zero,Blk.avS,Blk.zero,Cert.av,Cert.zero,Sig.avS,Sig.zero,dv]
 by_cases k5:k = 5
 ·have m2:=JG3 (G:=G) r1
  have m4:=JGd (G:=G) r1.blk'
  have eb:bodyRd' k r1 = certF.rd' r1.blk':=by simp [bodyRd',k5]
  have ev:bodyRd k r1 = { Mail.zero with kind:=k,blk:=r1.blk,cert:=certF.rd r1.blk' }:=by simp [bodyRd,k5]
  rw [eb,ev]
  clear eb ev
  generalize r1.blk = h at *
  generalize r1.blk' = r2 at *
  generalize certF.rd r2 = p at *
  generalize certF.rd' r2 = r3 at *
  have m3:=Jbr (G:=G) r3
  simp [rdM,k1,k2,k3,k4,k5]
  refine Ja m2 ?_ ?_
  ·simp [rdM]
  simp [rdM]
  refine Ja m4 ?_ ?_
  ·simp [rdM]
  simp [rdM]
  refine Ja m3 ?_ ?_
  ·simp [rdM]
  simp [rdM]
  cases hd:r3.done
  ·simp [rdM]
   refine Jb (.inr rfl) ?_
   simp [Mail.av,Mail.zero,Plan.av,Plan.zero,Vote.av,Vote.zero,Req.av,Req.zero,Chg.av,Chg.zero,Rep.avS,Rep.zero,Blk.avS,Blk.zero,Cert.av,Cert.zero,Sig.avS,Sig.zero,dv]
  ·simp [rdM]
   refine Jb (.inr rfl) ?_
   simp [Mail.av,Mail.zero,Plan.av,Plan.zero,Vote.av,Vote.zero,Req.av,Req.zero,Chg.av,Chg.zero,Rep.avS,Rep.zero,Blk.avS,Blk.zero,Cert.av,Cert.zero,Sig.avS,Sig.zero,dv]
 by_cases k6:k = 6
 ·have m2:=Js (G:=G) r1 1 1025
  have eb:bodyRd' k r1 = r1.inn' 1 1025:=by simp [bodyRd',k6]
  have ev:bodyRd k r1 = { Mail.zero with kind:=k,height:=r1.inn 1 1025 }:=by simp [bodyRd,k6]
  rw [eb,ev]
  clear eb ev
  generalize r1.inn 1 1025 = p at *
  generalize r1.inn' 1 1025 = r2 at *
  have m3:=Jbr (G:=G) r2
  simp [rdM,k1,k2,k3,k4,k5,k6]
  refine Ja m2 ?_ ?_
  ·simp [rdM]
  simp [rdM]
  refine Ja m3 ?_ ?_
  ·simp [rdM]
  simp [rdM]
  cases hd:r2.done
  ·simp [rdM]
   refine Jb (.inr rfl) ?_
   simp [Mail.av,Mail.zero,Plan.av,Plan.zero,Vote.av,Vote.zero,Req.av,Req.zero,Chg.av,Chg.zero,Rep.avS,Rep.zero,Blk.avS,Blk.zero,Cert.av,Cert.zero,Sig.avS,Sig.zero,dv]
  ·simp [rdM]
   refine Jb (.inr rfl) ?_
   simp [Mail.av,Mail.zero,Plan.av,Plan.zero,Vote.av,Vote.zero,Req.av,Req.zero,Chg.av,Chg.zero,Rep.avS,Rep.zero,Blk.avS,Blk.zero,Cert.av,Cert.zero,Sig.avS,Sig.zero,dv]
 by_cases k8:k = 8
 ·have m2:=Js (G:=G) r1 0 1024
  have eb:bodyRd' k r1 = linksF.rd' r1:=by simp [bodyRd',k8]
  have ev:bodyRd k r1 = { Mail.zero with kind:=k,links:=linksF.rd r1 }:=by simp [bodyRd,k8]
  rw [eb,ev,JOA,JPG]
  clear eb ev
  have hN:(((r1.inn 0 1024).toNat:Nat):Int) = r1.inn 0 1024 ∧ (r1.inn 0 1024).toNat ≤ 1024:=by
   have:=count1024 r1
   omega
  obtain ⟨hN,hN2⟩:=hN
  generalize (r1.inn 0 1024).toNat = N at *
  rw [← hN] at m2
  clear hN
  have hflt2:=r1.flt_inn 0 1024
  generalize r1.inn' 0 1024 = r2 at *
  obtain ⟨L,hL⟩:∃ L:Nat → List Lnk,∀ i,L i = (repR (fun _=>linkF) r2 i).1:=⟨_,fun _=>rfl⟩
  obtain ⟨R,hR⟩:∃ R:Nat → Rd,∀ i,R i = (repR (fun _=>linkF) r2 i).2:=⟨_,fun _=>rfl⟩
  have hL0:L 0 = []:=by rw [hL]; simp only [repR]
  have hR0:r2 = R 0:=by rw [hR]; simp only [repR]
  have hLl:∀ i,(L i).length = i:=fun i=>by rw [hL]; exact JQ _ r2 i
  have hLs:∀ i,L (i + 1) = L i ++ [linkF.rd (R i)]:=fun i=>by rw [hL,hL,hR]; simp only [repR]
  have hRs:∀ i,R (i + 1) = linkF.rd' (R i):=fun i=>by rw [hR,hR]; simp only [repR]
  have hst:∀ j,j ≤ N → (R j).bad = true → R j = Rd.fault ∧ R N = Rd.fault:=by
   intro j hj hb
   rw [hR] at hb
   exact ⟨by rw [hR]; exact JjN (fun _=>JyY) r2 hflt2 j hb,by rw [hR]; exact JoJ (fun _=>JyY) r2 hflt2 j hb N hj⟩
  rw [← hL,← hR]
  clear hL hR
  simp [rdM,k1,k2,k3,k4,k5,k6,k8]
  refine Ja m2 ?_ ?_
  ·simp [rdM]
  simp [rdM]
  rw [hR0]
  refine go_up N (fun j (_:Unit)=>True) (fun j _ c=>⟨[(2,.ptr 2 c 0),(4,.ptr 1131000 c 0),(5,.ptr 5 c 0),(6,.v (.int .i64 ((N:Int) - (j:Nat))))],
   [(2,.var c Mail.zero.av),(5,.var c (.node [.v (.int .i64 8),Plan.zero.av,Vote.zero.av,Req.zero.av,Rep.zero.avS,.v (.int .i64 0),Blk.zero.avS,Cert.zero.av,.row 72 103 c 0 j,.v (.slice none 0 0)])),(72,.rows c 103 (Lnks (L j))),
    (1131000,.var c (.node [.row 1132000 1 c (R j).pre.length (R j).s.length,.v (.bool (R j).bad)])),(1132000,.rows c 1 (B ((R j).pre ++ (R j).s)))],c + 1⟩) () _ (Weak.re (by simp [hL0,Mail.av,Mail.zero,Plan.av,Plan.zero,Vote.av,Vote.zero,Req.av,Req.zero,Chg.av,Chg.zero,Rep.avS,Rep.zero,Blk.avS,Blk.zero,Cert.av,Cert.zero,Sig.avS,Sig.zero,dv])) trivial ?_ ?_
  ·intro j _ c hj _
   have hw:IntKind.i64.wrap ((N:Int) - (j:Int) - 1) = (N:Int) - ((j:Int) + 1):=by rw [Jp (by omega)]; omega
   have f1:fitsB (j + 1) 200:=fits (by omega) (by omega)
   have e1:=hLs j
   have e2:=hRs j
   have hlj:=hLl j
   have hs:=hst j (by omega)
   have m8:=J2 (G:=G) (R j)
   cases hb:(R j).bad
   ·generalize R j = q at *
    have m3:=JUg (G:=G) q
    generalize linkF.rd q = v at *
    generalize linkF.rd' q = q1 at *
    generalize L j = x at *
    have hS:=JTs x v
    rw [hb] at m8
    simp [hj]
    refine Ja m8 ?_ ?_
    ·simp [rdM,hb]
    simp [rdM,hb]
    refine Ja m3 ?_ ?_
    ·simp [rdM,hb]
    simp [rdM,f1,hlj,hS]
    simp [hw]
    exact ⟨(),_,Weak.re (by simp [e1,e2]),trivial⟩
   ·obtain ⟨q1,q2⟩:=hs hb
    have m9:=Jbr (G:=G) Rd.fault
    have hdf:Rd.fault.done = false:=rfl
    rw [hdf] at m9
    rw [q2,hdf]
    rw [q1] at m8
    simp [hj,q1,Rd.fault]
    refine Ja m8 ?_ ?_
    ·simp [rdM,Rd.fault]
    simp [rdM,Rd.fault]
    refine Ja m9 ?_ ?_
    ·simp [rdM,Rd.fault]
    simp [rdM,Rd.fault]
    refine Jb (.inr rfl) ?_
    simp [Mail.av,Mail.zero,Plan.av,Plan.zero,Vote.av,Vote.zero,Req.av,Req.zero,Chg.av,Chg.zero,Rep.avS,Rep.zero,Blk.avS,Blk.zero,Cert.av,Cert.zero,Sig.avS,Sig.zero,dv]
  ·intro _ c _
   have hlN:=hLl N
   generalize R N = q at *
   generalize L N = x at *
   have m3:=Jbr (G:=G) q
   have htx:List.take N x = x:=List.take_of_length_le (by omega)
   simp
   refine Ja m3 ?_ ?_
   ·simp [rdM]
   simp [rdM]
   cases hd:q.done
   ·simp [rdM]
    refine Jb (.inr rfl) ?_
    simp [Mail.av,Mail.zero,Plan.av,Plan.zero,Vote.av,Vote.zero,Req.av,Req.zero,Chg.av,Chg.zero,Rep.avS,Rep.zero,Blk.avS,Blk.zero,Cert.av,Cert.zero,Sig.avS,Sig.zero,dv]
   ·simp [rdM]
    refine Jb (.inr rfl) ?_
    simp [Mail.av,Mail.zero,Plan.av,Plan.zero,Vote.av,Vote.zero,Req.av,Req.zero,Chg.av,Chg.zero,Rep.avS,Rep.zero,Blk.avS,Blk.zero,Cert.av,Cert.zero,Sig.avS,Sig.zero,dv,hlN,htx]
 by_cases k9:k = 9
 ·have m2:=JG3 (G:=G) r1
  have m4:=JGd (G:=G) r1.blk'
  have eb:bodyRd' k r1 = piecesF.rd' (certF.rd' r1.blk'):=by simp [bodyRd',k9]
  have ev:bodyRd k r1 = { Mail.zero with kind:=k,blk:=r1.blk,cert:=certF.rd r1.blk',pieces:=piecesF.rd (certF.rd' r1.blk') }:=by simp [bodyRd,k9]
  rw [eb,ev,JKS,JOh]
  clear eb ev
  generalize r1.blk = ab at *
  generalize r1.blk' = rb at *
  generalize certF.rd rb = ac at *
  generalize certF.rd' rb = rc at *
  have m5:=Js (G:=G) rc 0 1024
  have hN:(((rc.inn 0 1024).toNat:Nat):Int) = rc.inn 0 1024 ∧ (rc.inn 0 1024).toNat ≤ 1024:=by
   have:=count1024 rc
   omega
  obtain ⟨hN,hN2⟩:=hN
  generalize (rc.inn 0 1024).toNat = N at *
  rw [← hN] at m5
  clear hN
  have hflt2:=rc.flt_inn 0 1024
  generalize rc.inn' 0 1024 = r2 at *
  obtain ⟨L,hL⟩:∃ L:Nat → List Piece,∀ i,L i = (repR (fun _=>pieceF) r2 i).1:=⟨_,fun _=>rfl⟩
  obtain ⟨R,hR⟩:∃ R:Nat → Rd,∀ i,R i = (repR (fun _=>pieceF) r2 i).2:=⟨_,fun _=>rfl⟩
  have hL0:L 0 = []:=by rw [hL]; simp only [repR]
  have hR0:r2 = R 0:=by rw [hR]; simp only [repR]
  have hLl:∀ i,(L i).length = i:=fun i=>by rw [hL]; exact JQ _ r2 i
  have hLs:∀ i,L (i + 1) = L i ++ [pieceF.rd (R i)]:=fun i=>by rw [hL,hL,hR]; simp only [repR]
  have hRs:∀ i,R (i + 1) = pieceF.rd' (R i):=fun i=>by rw [hR,hR]; simp only [repR]
  have hst:∀ j,j ≤ N → (R j).bad = true → R j = Rd.fault ∧ R N = Rd.fault:=by
   intro j hj hb
   rw [hR] at hb
   exact ⟨by rw [hR]; exact JjN (fun _=>Jpt) r2 hflt2 j hb,by rw [hR]; exact JoJ (fun _=>Jpt) r2 hflt2 j hb N hj⟩
  rw [← hL,← hR]
  clear hL hR
  simp [rdM,k1,k2,k3,k4,k5,k6,k8,k9]
  refine Ja m2 ?_ ?_
  ·simp [rdM]
  simp [rdM]
  refine Ja m4 ?_ ?_
  ·simp [rdM]
  simp [rdM]
  refine Ja m5 ?_ ?_
  ·simp [rdM]
  simp [rdM]
  rw [hR0]
  refine go_up N (fun j (_:Unit)=>True) (fun j _ c=>⟨[(2,.ptr 2 c 0),(4,.ptr 1131000 c 0),(5,.ptr 5 c 0),(7,.v (.int .i64 ((N:Int) - (j:Nat))))],
   [(2,.var c Mail.zero.av),(5,.var c (.node [.v (.int .i64 9),Plan.zero.av,Vote.zero.av,Req.zero.av,Rep.zero.avS,.v (.int .i64 0),ab.avS,ac.av,.v (.slice none 0 0),.row 97 36 c 0 j])),(97,.rows c 36 (Pcs (L j))),
    (1131000,.var c (.node [.row 1132000 1 c (R j).pre.length (R j).s.length,.v (.bool (R j).bad)])),(1132000,.rows c 1 (B ((R j).pre ++ (R j).s)))],c + 1⟩) () _ (Weak.re (by simp [hL0,Mail.av,Mail.zero,Plan.av,Plan.zero,Vote.av,Vote.zero,Req.av,Req.zero,Chg.av,Chg.zero,Rep.avS,Rep.zero,Blk.avS,Blk.zero,Cert.av,Cert.zero,Sig.avS,Sig.zero,dv])) trivial ?_ ?_
  ·intro j _ c hj _
   have hw:IntKind.i64.wrap ((N:Int) - (j:Int) - 1) = (N:Int) - ((j:Int) + 1):=by rw [Jp (by omega)]; omega
   have f1:fitsB (j + 1) 88:=fits (by omega) (by omega)
   have e1:=hLs j
   have e2:=hRs j
   have hlj:=hLl j
   have hs:=hst j (by omega)
   have m8:=J2 (G:=G) (R j)
   cases hb:(R j).bad
   ·generalize R j = q at *
    have m3:=JVz (G:=G) q
    generalize pieceF.rd q = v at *
    generalize pieceF.rd' q = q1 at *
    generalize L j = x at *
    have hS:=JVJ x v
    rw [hb] at m8
    simp [hj]
    refine Ja m8 ?_ ?_
    ·simp [rdM,hb]
    simp [rdM,hb]
    refine Ja m3 ?_ ?_
    ·simp [rdM,hb]
    simp [rdM,f1,hlj,hS]
    simp [hw]
    exact ⟨(),_,Weak.re (by simp [e1,e2]),trivial⟩
   ·obtain ⟨q1,q2⟩:=hs hb
    have m9:=Jbr (G:=G) Rd.fault
    have hdf:Rd.fault.done = false:=rfl
    rw [hdf] at m9
    rw [q2,hdf]
    rw [q1] at m8
    simp [hj,q1,Rd.fault]
    refine Ja m8 ?_ ?_
    ·simp [rdM,Rd.fault]
    simp [rdM,Rd.fault]
    refine Ja m9 ?_ ?_
    ·simp [rdM,Rd.fault]
    simp [rdM,Rd.fault]
    refine Jb (.inr rfl) ?_
    simp [Mail.av,Mail.zero,Plan.av,Plan.zero,Vote.av,Vote.zero,Req.av,Req.zero,Chg.av,Chg.zero,Rep.avS,Rep.zero,Blk.avS,Blk.zero,Cert.av,Cert.zero,Sig.avS,Sig.zero,dv]
  ·intro _ c _
   have hlN:=hLl N
   generalize R N = q at *
   generalize L N = x at *
   have m3:=Jbr (G:=G) q
   have htx:List.take N x = x:=List.take_of_length_le (by omega)
   simp
   refine Ja m3 ?_ ?_
   ·simp [rdM]
   simp [rdM]
   cases hd:q.done
   ·simp [rdM]
    refine Jb (.inr rfl) ?_
    simp [Mail.av,Mail.zero,Plan.av,Plan.zero,Vote.av,Vote.zero,Req.av,Req.zero,Chg.av,Chg.zero,Rep.avS,Rep.zero,Blk.avS,Blk.zero,Cert.av,Cert.zero,Sig.avS,Sig.zero,dv]
   ·simp [rdM]
    refine Jb (.inr rfl) ?_
    simp [Mail.av,Mail.zero,Plan.av,Plan.zero,Vote.av,Vote.zero,Req.av,Req.zero,Chg.av,Chg.zero,Rep.avS,Rep.zero,Blk.avS,Blk.zero,Cert.av,Cert.zero,Sig.avS,Sig.zero,dv,hlN,htx]
 have m3:=Jbr (G:=G) r1
 have eb:bodyRd' k r1 = r1:=by simp [bodyRd',k1,k2,k3,k4,k5,k6,k8,k9]
 have ev:bodyRd k r1 = { Mail.zero with kind:=k }:=by simp [bodyRd,k1,k2,k3,k4,k5,k6,k8,k9]
 rw [eb,ev]
 clear eb ev
 simp [rdM,k1,k2,k3,k4,k5,k6,k8,k9]
 refine Ja m3 ?_ ?_
 ·simp [rdM]
 simp [rdM]
 cases hd:r1.done
 ·simp [rdM]
  refine Jb (.inr rfl) ?_
  simp [Mail.av,Mail.zero,Plan.av,Plan.zero,Vote.av,Vote.zero,Req.av,Req.zero,Chg.av,Chg.zero,Rep.avS,Rep.zero,Blk.avS,Blk.zero,Cert.av,Cert.zero,Sig.avS,Sig.zero,dv]
 ·simp [rdM]
  refine Jb (.inr rfl) ?_
  simp [Mail.av,Mail.zero,Plan.av,Plan.zero,Vote.av,Vote.zero,Req.av,Req.zero,Chg.av,Chg.zero,Rep.avS,Rep.zero,Blk.avS,Blk.zero,Cert.av,Cert.zero,Sig.avS,Sig.zero,dv]
end
end Go.Proofs.YtlajjoekbcjfnaaGreatDoor.WL
