import Derived.Test.YtlajjoekbcjfnaaGreatDoorWm11
namespace Go.Proofs.YtlajjoekbcjfnaaGreatDoor.WL
set_option linter.all false
section
open Go
set_option maxHeartbeats 4000000
variable {G:Nat → Option AV}
attribute [local irreducible] sha
attribute [local irreducible] Rd.sig Rd.sig' Rd.blk Rd.blk' Rd.inn Rd.inn' Rd.dg Rd.dg' Rd.rep Rd.rep' repR
theorem JGn (vs:List Vote) (i:Nat) (h:i < vs.length) : votesB (vs.take (i + 1)) = votesB (vs.take i) ++ voteF.wr vs[i] := by
 rw [List.take_succ_eq_append_getElem h,JUz]
theorem JSp (v:Vote) (h:v.sig.ok = true) : (voteF.wr v).length ≤ 2328 := by
 simp only [Sig.ok,decide_eq_true_eq] at h
 rw [JWf,List.length_append,Sig.bytes_len]
 simp [Vote.head,Jh]
 omega
theorem JAu : ∀ (vs:List Vote),(vs.all fun v=>v.sig.ok) = true → (votesB vs).length ≤ 2328 * vs.length
 | [],_=>by simp [votesB]
 | v :: vs,h=>by
   simp only [List.all_cons,Bool.and_eq_true] at h
   have h1:=JSp v h.1
   have h2:=JAu vs h.2
   show (voteF.wr v ++ votesB vs).length ≤ _
   rw [List.length_append,List.length_cons]
   omega
theorem JQ9 {α:Type} {p:α → Bool} {l:List α} {i:Nat} (h:∀ k (hk:k < l.length),k < i → p l[k] = true) : (l.take i).all p = true := by
 rw [List.all_eq_true]
 intro a ha
 obtain ⟨k,hk,rfl⟩:=List.getElem_of_mem ha
 rw [List.length_take] at hk
 rw [List.getElem_take]
 exact h k (by omega) (by omega)
theorem JK9 (bs:Bytes) (x:Cert) (hk:x.ok = false) (hn:x.votes.length ≤ 1000) : Meets Tryz.prog G Jbf [.ptr 1000 0 0,x.av] (wrM 0 bs) true (.v (.bool false)) (wrM 1 bs) := by
 refine Jc mix JLN ⟨by simp [wrM],by simp,by simp [wrM]⟩ ?_
 have m1:=Jz (G:=G) [] [x.round,(x.votes.length:Int)] (by simp)
 have hy:(nums [x.round,(x.votes.length:Int)]).length = 16:=by rw [Jh]; simp
 rw [List.nil_append] at m1
 unfold Cert.ok at hk
 generalize hvs:x.votes = vs at *
 generalize nums [x.round,(vs.length:Int)] = y at *
 simp [wrM,Cert.av,hvs]
 refine Ja m1 ?_ ?_
 ·simp [wrM,I64_2]
 simp [wrM,I64_2]
 obtain ⟨F,hF⟩:∃ F:Nat → Bytes,∀ i,F i = y ++ votesB (vs.take i):=⟨_,fun _=>rfl⟩
 have hF0:y = F 0:=by rw [hF]; simp [votesB]
 have h0l:(F 0).length = 16:=by rw [← hF0]; exact hy
 rw [← h0l] at hy
 rw [hF0]
 have h16:(F 0).length = 16:=h0l
 refine go_up vs.length (fun j (_:Unit)=>∀ k (hk:k < vs.length),k < j → vs[k].sig.ok = true) (fun j _ c=>⟨[(0,.ptr 1000 0 0),(3,.ptr 3 c 0),(5,.ptr 11 c 0),(21,.sl 41 (Votes vs)),(22,.v (.int .i64 (vs.length:Nat))),(23,.v (.int .i64 (j:Nat)))],
  [(3,.var c x.av),(11,.var c (.node [.row 12 1 c 0 (F j).length])),(12,.rows c 1 (B (F j))),(1000,.var 0 (.node [.row 2000 1 c 0 bs.length])),(2000,.rows c 1 (B bs))],c + 1⟩) () _ (Weak.re0 1000 (by simp [Cert.av,hvs])) (by intro k _ h; omega) ?_ ?_
 ·intro j _ c hj hok
  have hw:IntKind.i64.wrap ((j:Int) + 1) = ((j + 1:Nat):Int):=Jf (by omega)
  have hlj:(F j).length ≤ 16 + 2328 * j:=by
   have h1:=JAu (vs.take j) (JQ9 (p:=fun v:Vote=>v.sig.ok) hok)
   rw [List.length_take] at h1
   rw [hF,List.length_append,hF0,h16]
   have:2328 * min j vs.length ≤ 2328 * j:=by omega
   omega
  cases hsk:vs[j].sig.ok
  ·have m4:=JP0 (G:=G) (F j) vs[j] hsk
   simp [hj]
   refine Ja m4 ?_ ?_
   ·simp [wrM]
   simp [wrM]
   refine Jb (.inr rfl) ?_
   simp
  ·have m4:=JlW (G:=G) (F j) vs[j] hsk (by omega)
   have hFs:F j ++ voteF.wr vs[j] = F (j + 1):=by rw [hF,hF,JGn vs j hj,List.append_assoc]
   rw [hFs] at m4
   simp [hj]
   refine Ja m4 ?_ ?_
   ·simp [wrM]
   simp [wrM]
   simp [hw]
   refine ⟨(),_,Weak.re0 1000 (by simp),?_⟩
   intro k hk2 hkj
   rcases (show k < j ∨ k = j by omega) with h | rfl
   ·exact hok k hk2 h
   ·exact hsk
 ·intro _ c hok
  exfalso
  have:(vs.all fun v=>v.sig.ok) = true:=by
   have:=JQ9 (p:=fun v:Vote=>v.sig.ok) (l:=vs) (i:=vs.length) hok
   rwa [List.take_length] at this
  rw [this] at hk
  cases hk
theorem Jmo (bs:Bytes) (x:Cert) (hk:x.ok = true) (hn:x.votes.length ≤ 1000) (hbs:bs.length ≤ 20000000) : Meets Tryz.prog G Jbf [.ptr 1000 0 0,x.av] (wrM 0 bs) true (.v (.bool true)) (wrM 1 (bs ++ x.bytes)) := by
 refine Jc mix JLN ⟨by simp [wrM],by simp,by simp [wrM]⟩ ?_
 have m1:=Jz (G:=G) [] [x.round,(x.votes.length:Int)] (by simp)
 have m2:=Jz (G:=G) bs [x.round,(x.votes.length:Int)] (by simp; omega)
 have hy:(nums [x.round,(x.votes.length:Int)]).length = 16:=by rw [Jh]; simp
 have hb:bs ++ x.bytes = bs ++ nums [x.round,(x.votes.length:Int)] ++ votesB x.votes:=by simp [Cert.bytes]
 rw [List.nil_append] at m1
 rw [hb]
 unfold Cert.ok at hk
 have hall:∀ k (h:k < x.votes.length),(x.votes[k]).sig.ok = true:=fun k h=>List.all_eq_true.1 hk _ (List.getElem_mem h)
 generalize hvs:x.votes = vs at *
 generalize nums [x.round,(vs.length:Int)] = y at *
 obtain ⟨F,hF⟩:∃ F:Nat → Bytes,∀ i,F i = y ++ votesB (vs.take i):=⟨_,fun _=>rfl⟩
 obtain ⟨K,hK⟩:∃ K:Nat → Bytes,∀ i,K i = bs ++ y ++ votesB (vs.take i):=⟨_,fun _=>rfl⟩
 have hF0:y = F 0:=by rw [hF]; simp [votesB]
 have hK0:bs ++ F 0 = K 0:=by rw [hK,← hF0]; simp [votesB]
 have hKN:bs ++ y ++ votesB vs = K vs.length:=by rw [hK,List.take_length]
 have hvl:∀ j,j ≤ vs.length → (votesB (vs.take j)).length ≤ 2328 * j:=by
  intro j hj
  have h1:=JAu (vs.take j) (JQ9 fun k h _=>hall k h)
  rw [List.length_take] at h1
  have:2328 * min j vs.length ≤ 2328 * j:=by omega
  omega
 have hFl:∀ j,j ≤ vs.length → (F j).length ≤ 16 + 2328 * j:=by
  intro j hj
  have:=hvl j hj
  rw [hF,List.length_append,hy]
  omega
 have hKl:∀ j,j ≤ vs.length → (K j).length ≤ bs.length + 16 + 2328 * j:=by
  intro j hj
  have:=hvl j hj
  rw [hK,List.length_append,List.length_append,hy]
  omega
 have hFs:∀ j (hj:j < vs.length),F j ++ voteF.wr vs[j] = F (j + 1):=fun j hj=>by rw [hF,hF,JGn vs j hj,List.append_assoc]
 have hKs:∀ j (hj:j < vs.length),K j ++ voteF.wr vs[j] = K (j + 1):=fun j hj=>by rw [hK,hK,JGn vs j hj]; simp only [List.append_assoc]
 rw [hKN]
 clear hF hK hKN hb hvl
 rw [hF0] at m1 m2 hy
 rw [hK0] at m2
 clear hF0
 simp [wrM,Cert.av,hvs]
 refine Ja m1 ?_ ?_
 ·simp [wrM,I64_2]
 simp [wrM,I64_2]
 refine go_up vs.length (fun j (_:Unit)=>True) (fun j _ c=>⟨[(0,.ptr 1000 0 0),(3,.ptr 3 c 0),(5,.ptr 11 c 0),(21,.sl 41 (Votes vs)),(22,.v (.int .i64 (vs.length:Nat))),(23,.v (.int .i64 (j:Nat)))],
  [(3,.var c x.av),(11,.var c (.node [.row 12 1 c 0 (F j).length])),(12,.rows c 1 (B (F j))),(1000,.var 0 (.node [.row 2000 1 c 0 bs.length])),(2000,.rows c 1 (B bs))],c + 1⟩) () _ (Weak.re0 1000 (by simp [Cert.av,hvs])) trivial ?_ ?_
 ·intro j _ c hj _
  have hw:IntKind.i64.wrap ((j:Int) + 1) = ((j + 1:Nat):Int):=Jf (by omega)
  have hlj:=hFl j (by omega)
  have m4:=JlW (G:=G) (F j) vs[j] (hall j hj) (by omega)
  rw [hFs j hj] at m4
  simp [hj]
  refine Ja m4 ?_ ?_
  ·simp [wrM]
  simp [wrM]
  simp [hw]
  exact ⟨(),_,Weak.re0 1000 (by simp),trivial⟩
 ·intro _ c _
  simp [Cert.av,hvs]
  refine Ja m2 ?_ ?_
  ·simp [wrM,I64_2]
  simp [wrM,I64_2]
  refine go_up vs.length (fun j (_:Unit)=>True) (fun j _ c=>⟨[(0,.ptr 1000 0 0),(41,.sl 41 (Votes vs)),(42,.v (.int .i64 (vs.length:Nat))),(43,.v (.int .i64 (j:Nat)))],
   [(1000,.var 0 (.node [.row 2000 1 c 0 (K j).length])),(2000,.rows c 1 (B (K j)))],c + 1⟩) () _ (Weak.re0 1000 (by simp)) trivial ?_ ?_
  ·intro j _ c hj _
   have hw:IntKind.i64.wrap ((j:Int) + 1) = ((j + 1:Nat):Int):=Jf (by omega)
   have hlj:=hKl j (by omega)
   have m4:=JlW (G:=G) (K j) vs[j] (hall j hj) (by omega)
   rw [hKs j hj] at m4
   simp [hj]
   refine Ja m4 ?_ ?_
   ·simp [wrM]
   simp [wrM]
   simp [hw]
   exact ⟨(),_,Weak.re0 1000 (by simp),trivial⟩
  ·intro _ c _
   simp
   refine Jb (.inr rfl) ?_
   simp
theorem count10 (r:Rd) : (0:Int) ≤ r.inn 1 10 ∧ r.inn 1 10 ≤ 10 := by
 unfold Rd.inn Rd.inOk
 split
 ·rename_i k
  simp only [Bool.and_eq_true,decide_eq_true_eq] at k
  omega
 ·omega
theorem JGd (r:Rd) : Meets Tryz.prog G Jg1 [.ptr 1000 0 0] (rdM 0 r) false (certF.rd r).av (rdM 1 (certF.rd' r)) := by
 refine Jc mix JT7 ⟨by simp [rdM],by simp [rdM],by simp [rdM]⟩ ?_
 rw [JQE,JSe]
 have hN:((r.certN:Nat):Int) = (r.inn' 0 1024).inn 1 10 ∧ r.certN ≤ 10:=by
  have:=count10 (r.inn' 0 1024)
  unfold Rd.certN
  omega
 obtain ⟨hN,hN2⟩:=hN
 generalize r.certN = N at *
 have m1:=Js (G:=G) r 0 1024
 generalize r.inn 0 1024 = a1 at *
 generalize r.inn' 0 1024 = r1 at *
 have m2:=Js (G:=G) r1 1 10
 rw [← hN] at m2
 clear hN
 generalize r1.inn' 1 10 = r2 at *
 simp [rdM]
 refine Ja m1 ?_ ?_
 ·simp [rdM]
 simp [rdM]
 refine Ja m2 ?_ ?_
 ·simp [rdM]
 simp [rdM]
 obtain ⟨L,hL⟩:∃ L:Nat → List Vote,∀ i,L i = (repR (fun _=>voteF) r2 i).1:=⟨_,fun _=>rfl⟩
 obtain ⟨R,hR⟩:∃ R:Nat → Rd,∀ i,R i = (repR (fun _=>voteF) r2 i).2:=⟨_,fun _=>rfl⟩
 have hL0:L 0 = []:=by rw [hL]; simp only [repR]
 have hR0:r2 = R 0:=by rw [hR]; simp only [repR]
 have hLl:∀ i,(L i).length = i:=fun i=>by rw [hL]; exact JQ _ r2 i
 rw [← hL,← hR]
 rw [hR0]
 refine go_up N (fun j (_:Unit)=>True) (fun j _ c=>⟨[(0,.ptr 1000 0 0),(2,.ptr 2 c 0),(3,.ptr 3 c 0),(8,.v (.int .i64 (N:Nat))),(9,.v (.int .i64 (j:Nat)))],
  [(2,.var c (.node [.v (.int .i64 0),.v (.slice none 0 0)])),(3,.var c (.node [.v (.int .i64 a1),.row 16 41 c 0 j])),(16,.rows c 41 (Votes (L j))),
   (1000,.var 0 (.node [.row 2000 1 c (R j).pre.length (R j).s.length,.v (.bool (R j).bad)])),(2000,.rows c 1 (B ((R j).pre ++ (R j).s)))],c + 1⟩) () _ (Weak.re0 1000 (by simp [hL0])) trivial ?_ ?_
 ·intro j _ c hj _
  have hw:IntKind.i64.wrap ((j:Int) + 1) = ((j + 1:Nat):Int):=Jf (by omega)
  have f1:fitsB (j + 1) 152:=fits (by omega) (by omega)
  have e1:L (j + 1) = L j ++ [voteF.rd (R j)]:=by rw [hL,hL,hR]; simp only [repR]
  have e2:R (j + 1) = voteF.rd' (R j):=by rw [hR,hR]; simp only [repR]
  have hlj:=hLl j
  generalize R j = q at *
  have m3:=JOu (G:=G) q
  generalize voteF.rd q = v at *
  generalize voteF.rd' q = q1 at *
  generalize L j = x at *
  have hS:=JPA x v
  simp [hj,rdM]
  refine Ja m3 ?_ ?_
  ·simp [rdM]
  simp [rdM,f1,hlj,hS]
  simp [hw]
  exact ⟨(),_,Weak.re0 1000 (by simp [e1,e2]),trivial⟩
 ·intro _ c _
  have hlN:=hLl N
  generalize R N = q at *
  generalize L N = x at *
  have m8:=J2 (G:=G) q
  have htx:List.take N x = x:=List.take_of_length_le (by omega)
  simp [rdM]
  refine Ja m8 ?_ ?_
  ·simp [rdM]
  simp [rdM]
  cases hb:q.bad
  ·simp [rdM,hb]
   refine Jb (.inr rfl) ?_
   simp [Cert.av,hb,hlN,htx]
  ·simp [rdM,hb]
   refine Jb (.inr rfl) ?_
   simp [Cert.av,Cert.zero,hb]
theorem JXj (bs:Bytes) (l:Lnk) (hk:l.cert.ok = false) (hn:l.cert.votes.length ≤ 1000) : Meets Tryz.prog G JbK [.ptr 1000 0 0,l.av] (wrM 0 bs) true (.v (.bool false)) (wrM 1 bs) := by
 refine Jc mix JJ2 ⟨by simp [wrM],by simp,by simp [wrM]⟩ ?_
 have m1:=JK9 (G:=G) [] l.cert hk hn
 simp [wrM,Lnk.av]
 refine Ja m1 ?_ ?_
 ·simp [wrM]
 simp [wrM]
 refine Jb (.inr rfl) ?_
 simp
theorem Cert.bytes_len (x:Cert) (h:x.ok = true) : x.bytes.length ≤ 16 + 2328 * x.votes.length := by
 have:=JAu x.votes h
 simp only [Cert.bytes,List.length_append,Jh,List.length_cons,List.length_nil]
 omega
theorem JSn (bs:Bytes) (l:Lnk) (hk:l.cert.ok = true) (hn:l.cert.votes.length ≤ 1000) (hm:l.conf.ms.length ≤ 1000) (hq:l.blk.qs.length ≤ 1000000) (hbs:bs.length + l.blk.bytes.length ≤ 15000000) :
 Meets Tryz.prog G JbK [.ptr 1000 0 0,l.av] (wrM 0 bs) true (.v (.bool true)) (wrM 1 (bs ++ linkF.wr l)):=by
 refine Jc mix JJ2 ⟨by simp [wrM],by simp,by simp [wrM]⟩ ?_
 have hl:=l.cert.bytes_len hk
 have m1:=Jmo (G:=G) [] l.cert hk hn (by simp)
 have m2:=Jho (G:=G) bs l.blk (by omega) hq
 have m3:=Jmo (G:=G) (bs ++ l.blk.bytes) l.cert hk hn (by rw [List.length_append]; omega)
 have m4:=JLF (G:=G) (bs ++ l.blk.bytes ++ l.cert.bytes) l.conf (by rw [List.length_append,List.length_append]; omega) hm
 have hb:bs ++ linkF.wr l = bs ++ l.blk.bytes ++ l.cert.bytes ++ l.conf.bytes:=by rw [JQ3]; simp
 rw [hb]
 generalize bs ++ l.blk.bytes ++ l.cert.bytes ++ l.conf.bytes = y3 at *
 generalize bs ++ l.blk.bytes ++ l.cert.bytes = y2 at *
 generalize bs ++ l.blk.bytes = y1 at *
 generalize [] ++ l.cert.bytes = y0 at *
 simp [wrM,Lnk.av]
 refine Ja m1 ?_ ?_
 ·simp [wrM]
 simp [wrM]
 refine Ja m2 ?_ ?_
 ·simp [wrM]
 simp [wrM]
 refine Ja m3 ?_ ?_
 ·simp [wrM]
 simp [wrM]
 refine Ja m4 ?_ ?_
 ·simp [wrM]
 simp [wrM]
 refine Jb (.inr rfl) ?_
 simp
theorem JUg (r:Rd) : Meets Tryz.prog G JpZ [.ptr 1000 0 0] (rdM 0 r) false (linkF.rd r).av (rdM 1 (linkF.rd' r)) := by
 refine Jc mix JRw ⟨by simp [rdM],by simp [rdM],by simp [rdM]⟩ ?_
 rw [JQv,JTe]
 have m1:=JG3 (G:=G) r
 generalize r.blk = a1 at *
 generalize r.blk' = r1 at *
 have m2:=JGd (G:=G) r1
 generalize certF.rd r1 = a2 at *
 generalize certF.rd' r1 = r2 at *
 have m3:=JVg (G:=G) r2
 generalize confF.rd r2 = a3 at *
 generalize confF.rd' r2 = r3 at *
 have m8:=J2 (G:=G) r3
 simp [rdM]
 refine Ja m1 ?_ ?_
 ·simp [rdM]
 simp [rdM]
 refine Ja m2 ?_ ?_
 ·simp [rdM]
 simp [rdM]
 refine Ja m3 ?_ ?_
 ·simp [rdM]
 simp [rdM]
 refine Ja m8 ?_ ?_
 ·simp [rdM]
 simp [rdM]
 cases hb:r3.bad
 ·simp [rdM,hb]
  refine Jb (.inr rfl) ?_
  simp [Lnk.av,hb]
 ·simp [rdM,hb]
  refine Jb (.inr rfl) ?_
  simp [Lnk.av,Lnk.zero,Blk.avS,Blk.zero,Cert.av,Cert.zero,Conf.av,Conf.zero,hb,dv]
end
section
open Go
set_option maxHeartbeats 4000000
variable {G:Nat → Option AV}
theorem JSJ (r:Rd) : Meets Tryz.prog G Jgm [.ptr 1000 0 0] (rfM r) true (r.blk.avR 3000 1) (rfM r.blk' ++ [(3000,.rows 1 42 (Reqs r.blk.qs))]) := by
 refine Jc mix JYb ⟨by simp [rfM],by simp [rfM,Blk.avR],by simp [rfM]⟩ ?_
 obtain ⟨hN,hN2⟩:=r.blkN_eq
 have hsane:∀ n,(r.b6.rq' n).sane:=r.b6.rq_sane (Rd.inn_sane _ _ _)
 have hblk:r.blk = if (r.b6.rq' r.blkN).bad = true then Blk.zero else ⟨r.inn 0 1073741824,r.b1.inn 1 1024,r.b2.dg,r.b3.dg,r.b4.dg,r.b6.rq r.blkN⟩:=rfl
 have hblk':r.blk' = r.b6.rq' r.blkN:=rfl
 rw [hblk,hblk']
 generalize r.blkN = N at *
 unfold Rd.b6 Rd.b5 Rd.b4 Rd.b3 Rd.b2 Rd.b1 at *
 have m1:=Jo (G:=G) r 0 1073741824
 generalize r.inn' 0 1073741824 = r1 at *
 have m2:=Jo (G:=G) r1 1 1024
 generalize r1.inn' 1 1024 = r2 at *
 have m3:=J0 (G:=G) r2
 generalize r2.dg' = r3 at *
 have m4:=J0 (G:=G) r3
 generalize r3.dg' = r4 at *
 have m5:=J0 (G:=G) r4
 generalize r4.dg' = r5 at *
 have m6:=Jo (G:=G) r5 0 8
 rw [← hN] at m6
 generalize r5.inn' 0 8 = r6 at *
 generalize r.inn 0 1073741824 = a1 at *
 generalize r1.inn 1 1024 = a2 at *
 generalize r2.dg = a3 at *
 generalize r3.dg = a4 at *
 generalize r4.dg = a5 at *
 simp [rfM]
 refine Ja m1 ?_ ?_
 ·simp [rfM]
 simp [rfM]
 refine Ja m2 ?_ ?_
 ·simp [rfM]
 simp [rfM]
 refine Ja m3 ?_ ?_
 ·simp [rfM]
 simp [rfM,dv]
 refine Ja m4 ?_ ?_
 ·simp [rfM]
 simp [rfM,dv]
 refine Ja m5 ?_ ?_
 ·simp [rfM]
 simp [rfM,dv]
 refine Ja m6 ?_ ?_
 ·simp [rfM]
 simp [rfM,dv]
 refine go_up N (fun j (_:Unit)=>True) (fun j _ c=>⟨[(0,.ptr 1000 0 0),(2,.ptr 2 c 0),(3,.ptr 3 c 0),(4,.v (.int .i64 (N:Nat))),(5,.v (.int .i64 (j:Nat)))],
  [(2,.var c (.node [.v (.int .i64 0),.v (.int .i64 0),dv Dg.zero,dv Dg.zero,dv Dg.zero,.v (.slice none 0 0)])),(3,.var c (.node [.v (.int .i64 a1),.v (.int .i64 a2),dv a3,dv a4,dv a5,.row 37 42 c 0 j])),(37,.rows c 42 (Reqs (r6.rq j))),
   (1000,.var 0 (.node [.v (.string (mkS (r6.rq' j).s)),.v (.bool (r6.rq' j).bad)]))],c + 1⟩) () _ (Weak.re0 1000 (by simp [Rd.rq,Rd.rq',dv])) trivial ?_ ?_
 ·intro j _ c hj _
  have hw:IntKind.i64.wrap ((j:Int) + 1) = ((j + 1:Nat):Int):=Jf (by omega)
  have f1:fitsB (j + 1) 136:=fits (by omega) (by omega)
  have e1:r6.rq (j + 1) = r6.rq j ++ [(r6.rq' j).req]:=rfl
  have e2:r6.rq' (j + 1) = (r6.rq' j).req':=rfl
  have hl:=r6.rq_length j
  have hsj:=hsane j
  have hsN:=hsane N
  have hbN:=r6.rq_bad j
  have m8:=JJ (G:=G) (r6.rq' j)
  generalize r6.rq j = x at *
  cases hb:(r6.rq' j).bad
  ·generalize r6.rq' j = q at *
   have m7:=JLx (G:=G) q
   generalize q.req' = q' at *
   generalize q.req = t at *
   have hS:=JSy x t
   simp only [Req.av,Chg.av] at hS
   simp [hj,rfM,hb,dv]
   refine Ja m8 ?_ ?_
   ·simp [rfM,hb]
   simp [rfM,hb,dv]
   refine Ja m7 ?_ ?_
   ·simp [rfM,hb]
   simp [rfM,f1,hl,hw,hS,dv,Req.av,Chg.av]
   exact ⟨(),_,Weak.re0 1000 (by simp [e1,e2]),trivial⟩
  ·have hbn:=hbN hb N (by omega)
   have s1:=hsj hb
   have s2:=hsN hbn
   generalize r6.rq' j = q at *
   generalize r6.rq' N = p at *
   simp [hj,rfM,hb,dv]
   refine Ja m8 ?_ ?_
   ·simp [rfM,hb]
   simp [rfM,hb,dv]
   refine Ja m8 ?_ ?_
   ·simp [rfM,hb]
   simp [rfM,hb,dv]
   refine Jb (.inr rfl) ?_
   simp [Blk.avR,Blk.zero,hb,hbn,s1,s2,dv]
 ·intro _ c _
  have hl:=r6.rq_length N
  generalize r6.rq N = x at *
  generalize r6.rq' N = q at *
  have m8:=JJ (G:=G) q
  simp [rfM,dv]
  refine Ja m8 ?_ ?_
  ·simp [rfM]
  cases hb:q.bad
  ·simp [rfM,hb,dv]
   refine Jb (.inr rfl) ?_
   simp [Blk.avR,hl,hb,dv]
  ·simp [rfM,hb,dv]
   refine Jb (.inr rfl) ?_
   simp [Blk.avR,Blk.zero,hb,dv]
end
section
open Go
set_option maxHeartbeats 4000000
variable {G:Nat → Option AV}
structure KdA where
 o:List Dg
 s:List Dg
 p:List Dg
def KdA.put (a:KdA) (i:Nat) (d:Dg) : KdA := if i < 32 then { a with o:=a.o ++ [d] } else if i < 64 then { a with s:=a.s ++ [d] } else { a with p:=a.p ++ [d] }
def Rd.kd (r:Rd) : Nat → KdA
 | 0=>⟨[],[],[]⟩
 | i + 1=>(r.kd i).put i (r.ds' i).dg
theorem kd_o (r:Rd) : ∀ i,i ≤ 32 → r.kd i = ⟨r.ds i,[],[]⟩
 | 0,_=>rfl
 | i + 1,h=>by
   simp only [Rd.kd,kd_o r i (by omega),KdA.put,if_pos (show i < 32 by omega)]
   rfl
theorem kd_s (r:Rd) : ∀ i,i ≤ 32 → r.kd (32 + i) = ⟨r.ds 32,(r.ds' 32).ds i,[]⟩
 | 0,_=>kd_o r 32 (by omega)
 | i + 1,h=>by
   show r.kd (32 + i + 1) = _
   simp only [Rd.kd,kd_s r i (by omega),KdA.put,if_neg (show ¬ 32 + i < 32 by omega),if_pos (show 32 + i < 64 by omega),Rd.ds_add']
   rfl
theorem kd_p (r:Rd) : ∀ i,r.kd (64 + i) = ⟨r.ds 32,(r.ds' 32).ds 32,((r.ds' 32).ds' 32).ds i⟩
 | 0=>kd_s r 32 (by omega)
 | i + 1=>by
   show r.kd (64 + i + 1) = _
   simp only [Rd.kd,kd_p r i,KdA.put,if_neg (show ¬ 64 + i < 32 by omega),if_neg (show ¬ 64 + i < 64 by omega)]
   rw [show 64 + i = 32 + (32 + i) by omega,Rd.ds_add',Rd.ds_add']
   rfl
def kfM (c:Nat) (q:Rd) (leaf:Int) (a:KdA) : List (Nat × Loc) :=
 [(2,.var c (.node [.v (.int .i64 0),.node [.v (.slice none 0 0),.v (.slice none 0 0)],.v (.slice none 0 0)])),(3,.var c (.node [.v (.int .i64 leaf),.node [.row 31 32 c 0 a.o.length,.row 41 32 c 0 a.s.length],.row 48 32 c 0 a.p.length])),
  (31,.rows c 32 (Dgs a.o)),(41,.rows c 32 (Dgs a.s)),(48,.rows c 32 (Dgs a.p)),
  (1000,.var 0 (.node [.v (.string (mkS q.s)),.v (.bool q.bad)]))]
theorem JRz (r:Rd) : Meets Tryz.prog G JkP [.ptr 1000 0 0] (rfM r) true (Sig.avR 3000 4000 5000 1 r.sig) (rfM r.sig' ++ Sig.rows 3000 4000 5000 1 r.sig) := by
 refine Jc mix JXf ⟨by simp [rfM,Sig.rows],by simp [rfM,Sig.rows,Sig.avR],by simp [rfM,Sig.rows]⟩ ?_
 obtain ⟨hN,hN2⟩:=r.sN_eq
 have m1:=JjT (G:=G) r
 have m2:=Jo (G:=G) r.num' 0 6
 rw [← hN] at m2
 have hs2:r.num'.inn' 0 6 = r.s2:=rfl
 rw [hs2] at m2
 have hsane:∀ n,(r.s2.ds' n).sane:=r.s2.ds_sane (Rd.inn_sane _ _ _)
 have hsig':r.sig' = r.s2.ds' (64 + r.sN):=by
  unfold Rd.sig'
  rw [show 64 + r.sN = 32 + (32 + r.sN) by omega,Rd.ds_add',Rd.ds_add']
 have hkd:=kd_p r.s2 r.sN
 have hsig:r.sig = if (r.s2.ds' (64 + r.sN)).bad = true then Sig.zero else ⟨r.num,(r.s2.kd (64 + r.sN)).o,(r.s2.kd (64 + r.sN)).s,(r.s2.kd (64 + r.sN)).p⟩:=by
  rw [hkd,← hsig']
  rfl
 rw [hsig',hsig]
 clear hsig hkd hsig'
 generalize r.sN = N at *
 generalize r.num' = r1 at *
 generalize r.num = lf at *
 generalize r.s2 = r2 at *
 obtain ⟨M,hM⟩:∃ M,M = 64 + N:=⟨_,rfl⟩
 rw [← hM]
 have wM:IntKind.i64.wrap (64 + (N:Int)) = (M:Int):=by rw [Jp (by omega)]; omega
 simp [rfM]
 refine Ja m1 ?_ ?_
 ·simp [rfM]
 simp [rfM]
 refine Ja m2 ?_ ?_
 ·simp [rfM]
 simp [rfM]
 refine go_up M (fun j (_:Unit)=>True) (fun j _ c=>⟨[(0,.ptr 1000 0 0),(2,.ptr 2 c 0),(3,.ptr 3 c 0),(4,.v (.int .i64 (N:Nat))),(5,.v (.int .i64 (j:Nat)))],kfM c (r2.ds' j) lf (r2.kd j),c + 1⟩) () _ (Weak.re0 1000 (by simp [kfM,Rd.kd,Rd.ds'])) trivial ?_ ?_
 ·intro j _ c hj _
  have hw:IntKind.i64.wrap ((j:Int) + 1) = ((j + 1:Nat):Int):=Jf (by omega)
  have e1:r2.kd (j + 1) = (r2.kd j).put j (r2.ds' j).dg:=rfl
  have e2:r2.ds' (j + 1) = (r2.ds' j).dg':=rfl
  have hsj:=hsane j
  have hsM:=hsane M
  have hbM:=r2.ds_bad j
  have m6:=JJ (G:=G) (r2.ds' j)
  have hal:(r2.kd j).o.length ≤ j ∧ (r2.kd j).s.length ≤ j ∧ (r2.kd j).p.length ≤ j:=by
   clear e1 e2 hsj hsM hbM m6
   induction j with
   | zero=>simp [Rd.kd]
   | succ j ih =>
     have:=ih (by omega) (Jf (by omega))
     simp only [Rd.kd,KdA.put]
     split
     ·simp; omega
     ·split
      ·simp; omega
      ·simp; omega
  generalize r2.kd j = a at *
  cases hb:(r2.ds' j).bad
  ·generalize r2.ds' j = q at *
   have m5:=J0 (G:=G) q
   generalize q.dg' = q' at *
   generalize q.dg = t at *
   obtain ⟨ox,sx,px⟩:=a
   simp only at hal
   by_cases c1:j < 32
   ·have c1i:(j:Int) < 32:=by omega
    have f1:fitsB (ox.length + 1) 32:=fits (by omega) (by omega)
    have e3:r2.kd (j + 1) = ⟨ox ++ [t],sx,px⟩:=by rw [e1]; simp [KdA.put,c1]
    simp [hj,kfM,wM,hb]
    refine Ja m6 ?_ ?_
    ·simp [rfM,hb]
    simp [rfM,hb]
    refine Ja m5 ?_ ?_
    ·simp [rfM,hb]
    simp [rfM,c1,c1i,f1,hw,Jlh]
    exact ⟨(),_,Weak.re0 1000 (by simp [kfM,e3,e2]),trivial⟩
   ·have c1i:¬ (j:Int) < 32:=by omega
    by_cases c2:j < 64
    ·have c2i:(j:Int) < 64:=by omega
     have f1:fitsB (sx.length + 1) 32:=fits (by omega) (by omega)
     have e3:r2.kd (j + 1) = ⟨ox,sx ++ [t],px⟩:=by rw [e1]; simp [KdA.put,c1,c2]
     simp [hj,kfM,wM,hb]
     refine Ja m6 ?_ ?_
     ·simp [rfM,hb]
     simp [rfM,hb]
     refine Ja m5 ?_ ?_
     ·simp [rfM,hb]
     simp [rfM,c1,c1i,c2,c2i,f1,hw,Jlh]
     exact ⟨(),_,Weak.re0 1000 (by simp [kfM,e3,e2]),trivial⟩
    ·have c2i:¬ (j:Int) < 64:=by omega
     have f1:fitsB (px.length + 1) 32:=fits (by omega) (by omega)
     have e3:r2.kd (j + 1) = ⟨ox,sx,px ++ [t]⟩:=by rw [e1]; simp [KdA.put,c1,c2]
     simp [hj,kfM,wM,hb]
     refine Ja m6 ?_ ?_
     ·simp [rfM,hb]
     simp [rfM,hb]
     refine Ja m5 ?_ ?_
     ·simp [rfM,hb]
     simp [rfM,c1,c1i,c2,c2i,f1,hw,Jlh]
     exact ⟨(),_,Weak.re0 1000 (by simp [kfM,e3,e2]),trivial⟩
  ·have hbn:=hbM hb M (by omega)
   have s1:=hsj hb
   have s2:=hsM hbn
   generalize r2.ds' j = q at *
   generalize r2.ds' M = p at *
   simp [hj,kfM,wM,hb]
   refine Ja m6 ?_ ?_
   ·simp [rfM,hb]
   simp [rfM,hb]
   refine Ja m6 ?_ ?_
   ·simp [rfM,hb]
   simp [rfM,hb]
   refine Jb (.inr rfl) ?_
   simp [Sig.avR,Sig.rows,Sig.zero,hb,hbn,s1,s2]
 ·intro _ c _
  generalize r2.kd M = a at *
  generalize r2.ds' M = q at *
  have m6:=JJ (G:=G) q
  simp [kfM,wM]
  refine Ja m6 ?_ ?_
  ·simp [rfM]
  cases hb:q.bad
  ·simp [rfM,hb]
   refine Jb (.inr rfl) ?_
   simp [Sig.avR,Sig.rows,hb]
  ·simp [rfM,hb]
   refine Jb (.inr rfl) ?_
   simp [Sig.avR,Sig.rows,Sig.zero,hb]
end
section
open Go
set_option maxHeartbeats 4000000
variable {G:Nat → Option AV}
attribute [local irreducible] sha
attribute [local irreducible] Rd.sig Rd.sig' Rd.blk Rd.blk' Rd.inn Rd.inn' Rd.dg Rd.dg' Rd.rep Rd.rep' repR
theorem JPW (r:Rd) : Meets Tryz.prog G JkP [.ptr 1000 0 0] (rfM r) false r.sig.avS (rfM r.sig') := by
 refine (JRz r).freeze ⟨by simp [rfM],by simp [rfM],by simp [rfM]⟩ ?_
 simp [rfM,Sig.avR,Sig.avS,Sig.rows]
theorem JAt (r:Rd) : Meets Tryz.prog G Jgm [.ptr 1000 0 0] (rfM r) false r.blk.avS (rfM r.blk') := by
 refine (JSJ r).freeze ⟨by simp [rfM],by simp [rfM],by simp [rfM]⟩ ?_
 simp [rfM,Blk.avR,Blk.avS]
theorem JWW (r:Rd) : Meets Tryz.prog G JbQ [.ptr 1000 0 0] (rfM r) false r.rep.avS (rfM r.rep') := by
 refine (JRH r).freeze ⟨by simp [rfM],by simp [rfM],by simp [rfM]⟩ ?_
 simp [rfM,Rep.avR,Rep.avS]
theorem JL9 (r:Rd) : Meets Tryz.prog G JpR [.ptr 1000 0 0] (rfM r) false (voteF.rd r).av (rfM (voteF.rd' r)) := by
 refine Jc mix JXw ⟨by simp [rfM],by simp [rfM],by simp [rfM]⟩ ?_
 rw [JQc,JTE]
 have m1:=Jo (G:=G) r 1 2
 generalize r.inn 1 2 = a1 at *
 generalize r.inn' 1 2 = r1 at *
 have m2:=Jo (G:=G) r1 0 1073741824
 generalize r1.inn 0 1073741824 = a2 at *
 generalize r1.inn' 0 1073741824 = r2 at *
 have m3:=Jo (G:=G) r2 1 1024
 generalize r2.inn 1 1024 = a3 at *
 generalize r2.inn' 1 1024 = r3 at *
 have m4:=Jo (G:=G) r3 0 1024
 generalize r3.inn 0 1024 = a4 at *
 generalize r3.inn' 0 1024 = r4 at *
 have m5:=Jo (G:=G) r4 1 63
 generalize r4.inn 1 63 = a5 at *
 generalize r4.inn' 1 63 = r5 at *
 have m6:=J0 (G:=G) r5
 generalize r5.dg = a6 at *
 generalize r5.dg' = r6 at *
 have m7:=JPW (G:=G) r6
 generalize r6.sig = a7 at *
 generalize r6.sig' = r7 at *
 have m8:=JJ (G:=G) r7
 simp [rfM]
 refine Ja m1 ?_ ?_
 ·simp [rfM]
 simp [rfM]
 refine Ja m2 ?_ ?_
 ·simp [rfM]
 simp [rfM]
 refine Ja m3 ?_ ?_
 ·simp [rfM]
 simp [rfM]
 refine Ja m4 ?_ ?_
 ·simp [rfM]
 simp [rfM]
 refine Ja m5 ?_ ?_
 ·simp [rfM]
 simp [rfM]
 refine Ja m6 ?_ ?_
 ·simp [rfM]
 simp [rfM]
 refine Ja m7 ?_ ?_
 ·simp [rfM]
 simp [rfM]
 refine Ja m8 ?_ ?_
 ·simp [rfM]
 simp [rfM]
 cases hb:r7.bad
 ·simp [rfM,hb]
  refine Jb (.inr rfl) ?_
  simp [Vote.av,hb,dv]
 ·simp [rfM,hb]
  refine Jb (.inr rfl) ?_
  simp [Vote.av,Vote.zero,Sig.avS,Sig.zero,hb,dv]
theorem JQW (r:Rd) : Meets Tryz.prog G Jk5 [.ptr 1000 0 0] (rfM r) false (planF.rd r).av (rfM (planF.rd' r)) := by
 refine Jc mix JPk ⟨by simp [rfM],by simp [rfM],by simp [rfM]⟩ ?_
 rw [JQi,JR5]
 have m1:=Jo (G:=G) r 0 1073741824
 generalize r.inn 0 1073741824 = a1 at *
 generalize r.inn' 0 1073741824 = r1 at *
 have m2:=Jo (G:=G) r1 1 1024
 generalize r1.inn 1 1024 = a2 at *
 generalize r1.inn' 1 1024 = r2 at *
 have m3:=Jo (G:=G) r2 0 1024
 have hr:=r2.inn_range 0 1024 (by omega)
 generalize r2.inn 0 1024 = a3 at *
 generalize r2.inn' 0 1024 = r3 at *
 have m4:=Jo (G:=G) r3 (-1) (a3 - 1)
 generalize r3.inn (-1) (a3 - 1) = a4 at *
 generalize r3.inn' (-1) (a3 - 1) = r4 at *
 have m5:=Jo (G:=G) r4 1 63
 generalize r4.inn 1 63 = a5 at *
 generalize r4.inn' 1 63 = r5 at *
 have m6:=JAt (G:=G) r5
 generalize r5.blk = a6 at *
 generalize r5.blk' = r6 at *
 have m7:=JPW (G:=G) r6
 generalize r6.sig = a7 at *
 generalize r6.sig' = r7 at *
 have m8:=JJ (G:=G) r7
 have hw:IntKind.i64.wrap (a3 - 1) = a3 - 1:=Jp (by omega)
 simp [rfM]
 refine Ja m1 ?_ ?_
 ·simp [rfM,hw]
 simp [rfM,hw]
 refine Ja m2 ?_ ?_
 ·simp [rfM,hw]
 simp [rfM,hw]
 refine Ja m3 ?_ ?_
 ·simp [rfM,hw]
 simp [rfM,hw]
 refine Ja m4 ?_ ?_
 ·simp [rfM]
 simp [rfM]
 refine Ja m5 ?_ ?_
 ·simp [rfM]
 simp [rfM]
 refine Ja m6 ?_ ?_
 ·simp [rfM]
 simp [rfM]
 refine Ja m7 ?_ ?_
 ·simp [rfM]
 simp [rfM]
 refine Ja m8 ?_ ?_
 ·simp [rfM]
 simp [rfM]
 cases hb:r7.bad
 ·simp [rfM,hb]
  refine Jb (.inr rfl) ?_
  simp [Plan.av,hb,dv]
 ·simp [rfM,hb]
  refine Jb (.inr rfl) ?_
  simp [Plan.av,Plan.zero,Blk.avS,Blk.zero,Sig.avS,Sig.zero,hb,dv]
theorem Rd.flt_inn (r:Rd) (lo hi:Int) : (r.inn' lo hi).flt := by
 unfold Rd.inn'
 split
 ·exact r.flt_skip 8
 ·exact Rd.flt_fault
theorem JxA (r:Rd) : Meets Tryz.prog G JpX [.ptr 1000 0 0] (rfM r) false (certF.rd r).av (rfM (certF.rd' r)) := by
 refine Jc mix JWy ⟨by simp [rfM],by simp [rfM],by simp [rfM]⟩ ?_
 rw [JQE,JSe]
 have hN:((r.certN:Nat):Int) = (r.inn' 0 1024).inn 1 10 ∧ r.certN ≤ 10:=by
  have:=count10 (r.inn' 0 1024)
  unfold Rd.certN
  omega
 obtain ⟨hN,hN2⟩:=hN
 generalize r.certN = N at *
 have m1:=Jo (G:=G) r 0 1024
 generalize r.inn 0 1024 = a1 at *
 generalize r.inn' 0 1024 = r1 at *
 have m2:=Jo (G:=G) r1 1 10
 rw [← hN] at m2
 clear hN
 have hflt:=r1.flt_inn 1 10
 generalize r1.inn' 1 10 = r2 at *
 simp [rfM]
 refine Ja m1 ?_ ?_
 ·simp [rfM]
 simp [rfM]
 refine Ja m2 ?_ ?_
 ·simp [rfM]
 simp [rfM]
 obtain ⟨L,hL⟩:∃ L:Nat → List Vote,∀ i,L i = (repR (fun _=>voteF) r2 i).1:=⟨_,fun _=>rfl⟩
 obtain ⟨R,hR⟩:∃ R:Nat → Rd,∀ i,R i = (repR (fun _=>voteF) r2 i).2:=⟨_,fun _=>rfl⟩
 have hL0:L 0 = []:=by rw [hL]; simp only [repR]
 have hR0:r2 = R 0:=by rw [hR]; simp only [repR]
 have hLl:∀ i,(L i).length = i:=fun i=>by rw [hL]; exact JQ _ r2 i
 have hst:∀ j,j ≤ N → (R j).bad = true → R j = Rd.fault ∧ R N = Rd.fault:=by
  intro j hj hb
  rw [hR] at hb
  exact ⟨by rw [hR]; exact JjN (fun _=>JJj) r2 hflt j hb,by rw [hR]; exact JoJ (fun _=>JJj) r2 hflt j hb N hj⟩
 rw [← hL,← hR]
 rw [hR0]
 refine go_up N (fun j (_:Unit)=>True) (fun j _ c=>⟨[(0,.ptr 1000 0 0),(2,.ptr 2 c 0),(3,.ptr 3 c 0),(4,.v (.int .i64 (N:Nat))),(5,.v (.int .i64 (j:Nat)))],
  [(2,.var c (.node [.v (.int .i64 0),.v (.slice none 0 0)])),(3,.var c (.node [.v (.int .i64 a1),.row 25 41 c 0 j])),(25,.rows c 41 (Votes (L j))),
   (1000,.var 0 (.node [.v (.string (mkS (R j).s)),.v (.bool (R j).bad)]))],c + 1⟩) () _ (Weak.re0 1000 (by simp [hL0])) trivial ?_ ?_
 ·intro j _ c hj _
  have hw:IntKind.i64.wrap ((j:Int) + 1) = ((j + 1:Nat):Int):=Jf (by omega)
  have f1:fitsB (j + 1) 152:=fits (by omega) (by omega)
  have e1:L (j + 1) = L j ++ [voteF.rd (R j)]:=by rw [hL,hL,hR]; simp only [repR]
  have e2:R (j + 1) = voteF.rd' (R j):=by rw [hR,hR]; simp only [repR]
  have hlj:=hLl j
  have hs:=hst j (by omega)
  have m8:=JJ (G:=G) (R j)
  cases hb:(R j).bad
  ·generalize R j = q at *
   have m3:=JL9 (G:=G) q
   generalize voteF.rd q = v at *
   generalize voteF.rd' q = q1 at *
   generalize L j = x at *
   have hS:=JPA x v
   rw [hb] at m8
   simp [hj]
   refine Ja m8 ?_ ?_
   ·simp [rfM,hb]
   simp [rfM,hb]
   refine Ja m3 ?_ ?_
   ·simp [rfM,hb]
   simp [rfM,f1,hlj,hS]
   simp [hw]
   exact ⟨(),_,Weak.re0 1000 (by simp [e1,e2]),trivial⟩
  ·obtain ⟨k1,k2⟩:=hs hb
   rw [k2]
   rw [k1] at m8
   simp [hj,k1,Rd.fault]
   refine Ja m8 ?_ ?_
   ·simp [rfM,Rd.fault]
   simp [rfM,Rd.fault]
   refine Ja m8 ?_ ?_
   ·simp [rfM,Rd.fault]
   simp [rfM,Rd.fault]
   refine Jb (.inr rfl) ?_
   simp [Cert.av,Cert.zero]
 ·intro _ c _
  have hlN:=hLl N
  generalize R N = q at *
  generalize L N = x at *
  have m8:=JJ (G:=G) q
  have htx:List.take N x = x:=List.take_of_length_le (by omega)
  simp [rfM]
  refine Ja m8 ?_ ?_
  ·simp [rfM]
  simp [rfM]
  cases hb:q.bad
  ·simp [rfM,hb]
   refine Jb (.inr rfl) ?_
   simp [Cert.av,hb,hlN,htx]
  ·simp [rfM,hb]
   refine Jb (.inr rfl) ?_
   simp [Cert.av,Cert.zero,hb]
theorem JSU (r:Rd) : Meets Tryz.prog G JGo [.ptr 1000 0 0] (rfM r) false (confF.rd r).av (rfM (confF.rd' r)) := by
 refine Jc mix JWZ ⟨by simp [rfM],by simp [rfM],by simp [rfM]⟩ ?_
 rw [JRg,JS7]
 have hN:((r.confN:Nat):Int) = (r.inn' 0 1073741824).inn 1 10 ∧ r.confN ≤ 10:=by
  have:=count10 (r.inn' 0 1073741824)
  unfold Rd.confN
  omega
 obtain ⟨hN,hN2⟩:=hN
 generalize r.confN = N at *
 have m1:=Jo (G:=G) r 0 1073741824
 generalize r.inn 0 1073741824 = a1 at *
 generalize r.inn' 0 1073741824 = r1 at *
 have m2:=Jo (G:=G) r1 1 10
 rw [← hN] at m2
 clear hN
 generalize r1.inn' 1 10 = r2 at *
 simp [rfM]
 refine Ja m1 ?_ ?_
 ·simp [rfM]
 simp [rfM]
 refine Ja m2 ?_ ?_
 ·simp [rfM]
 simp [rfM]
 obtain ⟨L,hL⟩:∃ L:Nat → List Mem,∀ i,L i = (repR memF r2 i).1:=⟨_,fun _=>rfl⟩
 obtain ⟨R,hR⟩:∃ R:Nat → Rd,∀ i,R i = (repR memF r2 i).2:=⟨_,fun _=>rfl⟩
 have hL0:L 0 = []:=by rw [hL]; simp only [repR]
 have hR0:r2 = R 0:=by rw [hR]; simp only [repR]
 have hLl:∀ i,(L i).length = i:=fun i=>by rw [hL]; exact JQ memF r2 i
 rw [← hL,← hR]
 rw [hR0]
 refine go_up N (fun j (_:Unit)=>lastId (L j) ≤ 63 ∧ 0 ≤ lastId (L j)) (fun j _ c=>⟨[(0,.ptr 1000 0 0),(2,.ptr 2 c 0),(3,.ptr 3 c 0),(4,.v (.int .i64 (N:Nat))),(5,.v (.int .i64 (lastId (L j)))),(6,.v (.int .i64 (j:Nat)))],
  [(2,.var c (.node [.v (.int .i64 0),.v (.slice none 0 0)])),(3,.var c (.node [.v (.int .i64 a1),.row 37 34 c 0 j])),(37,.rows c 34 (Mems (L j))),
   (1000,.var 0 (.node [.v (.string (mkS (R j).s)),.v (.bool (R j).bad)]))],c + 1⟩) () _ (Weak.re0 1000 (by simp [hL0])) (by simp [hL0]) ?_ ?_
 ·intro j _ c hj hlast
  have hw:IntKind.i64.wrap ((j:Int) + 1) = ((j + 1:Nat):Int):=Jf (by omega)
  have f1:fitsB (j + 1) 48:=fits (by omega) (by omega)
  have e1:L (j + 1) = L j ++ [(memF (L j)).rd (R j)]:=by rw [hL,hL,hR]; simp only [repR]
  have e2:R (j + 1) = (memF (L j)).rd' (R j):=by rw [hR,hL,hR]; simp only [repR]
  have e3:∀ l r,(memF l).rd r = ⟨r.inn (lastId l + 1) 63,((r.inn' (lastId l + 1) 63).inn' 0 6).dg,(r.inn' (lastId l + 1) 63).inn 0 6⟩:=fun _ _=>rfl
  have e4:∀ l r,(memF l).rd' r = ((r.inn' (lastId l + 1) 63).inn' 0 6).dg':=fun _ _=>rfl
  rw [e3] at e1
  rw [e4] at e2
  have hlj:=hLl j
  have hw2:IntKind.i64.wrap (lastId (L j) + 1) = lastId (L j) + 1:=Jp (by omega)
  generalize hln:lastId (L j) = ln at *
  have hri:(R j).inn (ln + 1) 63 ≤ 63 ∧ 0 ≤ (R j).inn (ln + 1) 63:=by
   unfold Rd.inn Rd.inOk
   split
   ·rename_i k
    simp only [Bool.and_eq_true,decide_eq_true_eq] at k
    omega
   ·omega
  generalize R j = q at *
  have m3:=Jo (G:=G) q (ln + 1) 63
  generalize q.inn (ln + 1) 63 = b1 at *
  generalize q.inn' (ln + 1) 63 = q1 at *
  have m4:=Jo (G:=G) q1 0 6
  generalize q1.inn 0 6 = b2 at *
  generalize q1.inn' 0 6 = q2 at *
  have m5:=J0 (G:=G) q2
  generalize q2.dg = b3 at *
  generalize q2.dg' = q3 at *
  generalize L j = x at *
  have hS:=JSx x ⟨b1,b3,b2⟩
  simp only [Mem.av,dv] at hS
  simp [hj,rfM,hw2]
  refine Ja m3 ?_ ?_
  ·simp [rfM]
  simp [rfM]
  refine Ja m4 ?_ ?_
  ·simp [rfM]
  simp [rfM]
  refine Ja m5 ?_ ?_
  ·simp [rfM]
  simp [rfM,f1,hlj,hS,dv]
  simp [hw]
  refine ⟨(),_,Weak.re0 1000 (by simp [e1,e2]),?_⟩
  show lastId (L (j + 1)) ≤ 63 ∧ 0 ≤ lastId (L (j + 1))
  rw [e1,JO3]
  exact hri
 ·intro _ c hlast
  have hlN:=hLl N
  generalize R N = q at *
  generalize L N = x at *
  have m8:=JJ (G:=G) q
  have htx:List.take N x = x:=List.take_of_length_le (by omega)
  simp [rfM]
  refine Ja m8 ?_ ?_
  ·simp [rfM]
  simp [rfM]
  cases hb:q.bad
  ·simp [rfM,hb]
   refine Jb (.inr rfl) ?_
   simp [Conf.av,hb,hlN,htx]
  ·simp [rfM,hb]
   refine Jb (.inr rfl) ?_
   simp [Conf.av,Conf.zero,hb]
theorem JSO (r:Rd) : Meets Tryz.prog G JGx [.ptr 1000 0 0] (rfM r) false (linkF.rd r).av (rfM (linkF.rd' r)) := by
 refine Jc mix JXL ⟨by simp [rfM],by simp [rfM],by simp [rfM]⟩ ?_
 rw [JQv,JTe]
 have m1:=JAt (G:=G) r
 generalize r.blk = a1 at *
 generalize r.blk' = r1 at *
 have m2:=JxA (G:=G) r1
 generalize certF.rd r1 = a2 at *
 generalize certF.rd' r1 = r2 at *
 have m3:=JSU (G:=G) r2
 generalize confF.rd r2 = a3 at *
 generalize confF.rd' r2 = r3 at *
 have m8:=JJ (G:=G) r3
 simp [rfM]
 refine Ja m1 ?_ ?_
 ·simp [rfM]
 simp [rfM]
 refine Ja m2 ?_ ?_
 ·simp [rfM]
 simp [rfM]
 refine Ja m3 ?_ ?_
 ·simp [rfM]
 simp [rfM]
 refine Ja m8 ?_ ?_
 ·simp [rfM]
 simp [rfM]
 cases hb:r3.bad
 ·simp [rfM,hb]
  refine Jb (.inr rfl) ?_
  simp [Lnk.av,hb]
 ·simp [rfM,hb]
  refine Jb (.inr rfl) ?_
  simp [Lnk.av,Lnk.zero,Blk.avS,Blk.zero,Cert.av,Cert.zero,Conf.av,Conf.zero,hb,dv]
end
section
open Go
set_option maxHeartbeats 8000000
variable {G:Nat → Option AV}
attribute [local irreducible] sha comp hb checkK idxOf Vote.good
theorem JQG (n:Nat) (h:n ≤ 1000000) : Meets Tryz.prog G Jp1 [.v (.int .i64 (n:Nat))] [] true (.v (.int .i64 (faults n:Nat))) [] := by
 refine Jc mix JRr ⟨by simp,by simp,by simp⟩ ?_
 obtain ⟨f,hf⟩:∃ f,faults n = f:=⟨_,rfl⟩
 have hf':(n - 1) / 3 = f:=hf
 rw [hf]
 simp
 refine go_up f (fun j (_:Unit)=>True) (fun j (_:Unit) q=>⟨[(0,.v (.int .i64 (n:Nat))),(3,.v (.int .i64 (j:Nat)))],[],q + 1⟩) () _ (Weak.re (by simp)) trivial ?_ ?_
 ·intro j _ q hj hx
  have hw:IntKind.i64.wrap ((j:Int) + 1) = (j:Int) + 1:=Jp (by omega)
  have hw2:IntKind.i64.wrap (3 * ((j:Int) + 1)) = 3 * ((j:Int) + 1):=Jp (by omega)
  have hw3:IntKind.i64.wrap (3 * ((j:Int) + 1) + 1) = 3 * ((j:Int) + 1) + 1:=Jp (by omega)
  have hc:3 * ((j:Int) + 1) + 1 ≤ (n:Nat):=by omega
  simp [hw,hw2,hw3,hc]
  exact ⟨(),_,Weak.re (by simp),trivial⟩
 ·intro _ q hx
  have hw:IntKind.i64.wrap ((f:Int) + 1) = (f:Int) + 1:=Jp (by omega)
  have hw2:IntKind.i64.wrap (3 * ((f:Int) + 1)) = 3 * ((f:Int) + 1):=Jp (by omega)
  have hw3:IntKind.i64.wrap (3 * ((f:Int) + 1) + 1) = 3 * ((f:Int) + 1) + 1:=Jp (by omega)
  have hc:¬ 3 * ((f:Int) + 1) + 1 ≤ (n:Nat):=by omega
  simp [hw,hw2,hw3,hc]
  refine Jb (.inr rfl) ?_
  simp
end
end Go.Proofs.YtlajjoekbcjfnaaGreatDoor.WL
