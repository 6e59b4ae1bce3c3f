import Derived.Test.YtlajjoekbcjfnaaGreatDoorWm15
namespace Go.Proofs.YtlajjoekbcjfnaaGreatDoor.WL
set_option linter.all false
section
open Go
set_option maxHeartbeats 8000000
variable {G:Nat → Option AV}
attribute [local irreducible] sha
attribute [local irreducible] Rd.sig Rd.sig' Rd.blk Rd.blk' Rd.inn Rd.inn' Rd.dg Rd.dg' Rd.rep Rd.rep' Rd.text Rd.text' Rd.req Rd.req' repR decM decE
structure Mail.Small (m:Mail) : Prop where
 vote:m.vote.sig.small
 plan:m.plan.sig.small
 planq:m.plan.blk.qs.length ≤ 1000
 vals:m.rep.vals.length ≤ 1000
 blkq:m.blk.qs.length ≤ 1000
 cert:m.cert.small
 linksn:m.links.length ≤ 10000
 links:∀ l ∈ m.links,l.small
 piecesn:m.pieces.length ≤ 10000
 pieces:∀ p ∈ m.pieces,p.path.length ≤ 1000
theorem JXQ : Mail.zero.Small := by
 refine ⟨?_,?_,?_,?_,?_,?_,?_,?_,?_,?_⟩ <;> simp [Mail.zero,Vote.zero,Plan.zero,Sig.zero,Sig.small,Blk.zero,Rep.zero,Cert.zero,Cert.small]
theorem JOT (r:Rd) : (linksF.rd r).length ≤ 10000 ∧ ∀ l ∈ linksF.rd r,l.small := by
 rw [JOA]
 refine ⟨?_,repR_all JWz _ _⟩
 rw [JQ]
 have:=count1024 r
 omega
theorem JVA (r:Rd) : (pieceF.rd r).path.length ≤ 1000 := by
 rw [JN9]
 have:=(JZS r).2
 show (((((r.inn' 0 1024).inn' 0 1024).inn' 0 16).dg').ds r.pcN).length ≤ 1000
 rw [Rd.ds_length]
 omega
theorem JM4 (r:Rd) : (piecesF.rd r).length ≤ 10000 ∧ ∀ p ∈ piecesF.rd r,p.path.length ≤ 1000 := by
 rw [JKS]
 refine ⟨?_,repR_all JVA _ _⟩
 rw [JQ]
 have:=count1024 r
 omega
theorem JXa (k:Int) (r:Rd) : (bodyRd k r).Small := by
 have z:=JXQ
 unfold bodyRd
 split
 ·exact ⟨z.vote,(JPC r).1,(JPC r).2,z.vals,z.blkq,z.cert,z.linksn,z.links,z.piecesn,z.pieces⟩
 split
 ·exact ⟨JP8 r,z.plan,z.planq,z.vals,z.blkq,z.cert,z.linksn,z.links,z.piecesn,z.pieces⟩
 split
 ·exact ⟨z.vote,z.plan,z.planq,z.vals,z.blkq,z.cert,z.linksn,z.links,z.piecesn,z.pieces⟩
 split
 ·exact ⟨z.vote,z.plan,z.planq,JZz _,z.blkq,z.cert,z.linksn,z.links,z.piecesn,z.pieces⟩
 split
 ·exact ⟨z.vote,z.plan,z.planq,z.vals,JJM r,JLs _,z.linksn,z.links,z.piecesn,z.pieces⟩
 split
 ·exact ⟨z.vote,z.plan,z.planq,z.vals,z.blkq,z.cert,z.linksn,z.links,z.piecesn,z.pieces⟩
 split
 ·exact ⟨z.vote,z.plan,z.planq,z.vals,z.blkq,z.cert,(JOT r).1,(JOT r).2,z.piecesn,z.pieces⟩
 split
 ·exact ⟨z.vote,z.plan,z.planq,z.vals,JJM r,JLs _,z.linksn,z.links,(JM4 _).1,(JM4 _).2⟩
 ·exact ⟨z.vote,z.plan,z.planq,z.vals,z.blkq,z.cert,z.linksn,z.links,z.piecesn,z.pieces⟩
def Sig.greatF' (s:Sig) : Bool := decide (200 < s.op.length) || decide (200 < s.sh.length) || decide (200 < s.path.length)
def Lnk.greatL (l:Lnk) : Bool := decide (11 < l.cert.votes.length) || decide (20 < l.conf.ms.length) || l.blk.great 4096
def pcSum (ps:List Piece) : Nat := (ps.map fun p=>p.data.length + 32 * p.path.length).sum
def Mail.all (m:Mail) : List Vote := [m.vote,{ Vote.zero with sig:=m.plan.sig }] ++ m.cert.votes ++ m.links.flatMap (fun l=>l.cert.votes)
def Mail.total (m:Mail) : Nat := m.req.key.length + m.req.val.length + m.req.old.length + lenSum m.rep.vals + pcSum m.pieces
def Mail.great0 (m:Mail) : Bool := m.blk.great 4096 || m.plan.blk.great 4096 || decide (11 < m.cert.votes.length) || decide (3 < m.links.length) || decide (40 < m.pieces.length) || decide (400 < m.rep.vals.length)
def Mail.greatM (m:Mail) : Bool := m.great0 || (m.links.any Lnk.greatL || (m.all.any (fun v=>v.sig.greatF') || decide (16384 < m.total)))
end
section
open Go
set_option maxHeartbeats 4000000
attribute [local irreducible] sha
attribute [local irreducible] Rd.sig Rd.sig' Rd.blk Rd.blk' Rd.inn Rd.inn' Rd.dg Rd.dg' Rd.rep Rd.rep' Rd.text Rd.text' Rd.req Rd.req' repR decE
theorem great4096 {b:Blk} (h:b.great 4096 = false) : b.qs.length ≤ 40 ∧ b.bytes.length ≤ 5000 := by
 simp only [Blk.great,Bool.or_eq_false_iff,decide_eq_false_iff_not] at h
 rw [Blk.bytes_len]
 omega
theorem J1i (l:Lnk) : (linkW l).length ≤ (linkF.wr l).length := by
 unfold linkW
 split <;> simp
theorem JSq : ∀ (ls:List Lnk),(linksW ls).length ≤ (ls.flatMap linkF.wr).length
 | []=>by simp [linksW]
 | l :: ls=>by
   show (linkW l ++ linksW ls).length ≤ (linkF.wr l ++ ls.flatMap linkF.wr).length
   rw [List.length_append,List.length_append]
   have:=J1i l
   have:=JSq ls
   omega
theorem JVa {l:Lnk} (h:l.greatL = false) : (linkW l).length ≤ 40000 := by
 unfold linkW
 split
 ·rename_i hk
  simp only [Lnk.greatL,Bool.or_eq_false_iff,decide_eq_false_iff_not] at h
  have h1:=l.cert.bytes_len hk
  have h2:=(great4096 h.2).2
  have h3:=JO0 l.conf.ms
  rw [JQ3,List.length_append,List.length_append]
  simp only [Conf.bytes,List.length_append,Jh,List.length_cons,List.length_nil]
  omega
 ·simp
theorem JMN : ∀ (ls:List Lnk),ls.any Lnk.greatL = false → (linksW ls).length ≤ 40000 * ls.length
 | [],_=>by simp [linksW]
 | l :: ls,h=>by
   simp only [List.any_cons,Bool.or_eq_false_iff] at h
   show (linkW l ++ linksW ls).length ≤ _
   rw [List.length_append,List.length_cons]
   have:=JVa h.1
   have:=JMN ls h.2
   omega
theorem JWp : ∀ (ps:List Piece),(pcsB ps).length = 60 * ps.length + pcSum ps
 | []=>rfl
 | p :: ps=>by
   show (p.bytes ++ pcsB ps).length = 60 * (ps.length + 1) + (p.data.length + 32 * p.path.length + pcSum ps)
   rw [List.length_append,JWp ps,Piece.bytes_len]
   omega
theorem Mail.lim_of {m:Mail} (h:m.greatM = false) : m.Lim := by
 simp only [Mail.greatM,Mail.great0,Bool.or_eq_false_iff,decide_eq_false_iff_not] at h
 obtain ⟨⟨⟨⟨⟨⟨g1,g2⟩,g3⟩,g4⟩,g5⟩,g6⟩,g7,g8,g9⟩:=h
 have b1:=great4096 g1
 have b2:=great4096 g2
 have hl:=JMN m.links g7
 have hp:=JWp m.pieces
 have hr:=Req.bytes_len m.req
 have ht:=JOw m.rep.vals
 unfold Mail.total at g9
 have hrep:m.rep.bytes.length = 32 + (txts m.rep.vals).length:=by simp only [Rep.bytes,List.length_append,Jh,List.length_cons,List.length_nil]
 refine ⟨⟨by omega,?_,by omega,by omega,by omega⟩,by omega,by omega,by omega,by omega,by omega,by omega,by omega,by omega⟩
 intro l hm
 have hg:l.greatL = false:=by
  have:=List.any_eq_false.1 g7 l hm
  simpa using this
 simp only [Lnk.greatL,Bool.or_eq_false_iff,decide_eq_false_iff_not] at hg
 have:=great4096 hg.2
 exact ⟨by omega,by omega,by omega,by omega⟩
theorem JNr : Mail.zero.Lim := by
 refine Mail.lim_of ?_
 decide +kernel
theorem J0Y {α:Type} {f:α → Bytes} {l:List α} {a:α} (h:a ∈ l) : (f a).length ≤ (l.flatMap f).length := by
 obtain ⟨u,v,rfl⟩:=List.append_of_mem h
 simp only [List.flatMap_append,List.flatMap_cons,List.length_append]
 omega
theorem J0R (k:Int) (r:Rd) (hl:(bodyRd k r).body.length ≤ 1000000) : (bodyRd k r).Lim := by
 have z:=JNr
 have zl:=z.l
 have sm:=JXa k r
 revert hl sm
 unfold bodyRd
 split
 ·intro hl sm
  have e:({ Mail.zero with kind:=k,plan:=planF.rd r }:Mail).body = planF.wr (planF.rd r):=by rename_i hk; simp [Mail.body,hk]
  rw [e,JQo,List.length_append] at hl
  have e2:(planF.rd r).head.length = 40 + (planF.rd r).blk.bytes.length:=by simp [Plan.head,Jh]
  exact ⟨⟨zl.links,zl.link,zl.linksW,zl.pieces,zl.pcs⟩,by show (planF.rd r).blk.bytes.length ≤ _; omega,sm.planq,z.req,z.rep,z.repn,z.blk,z.blkq,z.votes⟩
 split
 ·intro _ _
  exact ⟨⟨zl.links,zl.link,zl.linksW,zl.pieces,zl.pcs⟩,z.plan,z.planq,z.req,z.rep,z.repn,z.blk,z.blkq,z.votes⟩
 split
 ·intro hl sm
  have e:({ Mail.zero with kind:=k,req:=r.req }:Mail).body = r.req.bytes:=by rename_i hk; simp [Mail.body,hk]
  rw [e] at hl
  exact ⟨⟨zl.links,zl.link,zl.linksW,zl.pieces,zl.pcs⟩,z.plan,z.planq,by show r.req.bytes.length ≤ _; omega,z.rep,z.repn,z.blk,z.blkq,z.votes⟩
 split
 ·intro hl sm
  have e:({ Mail.zero with kind:=k,height:=r.inn 0 1024,rep:=(r.inn' 0 1024).rep }:Mail).body = be8 (r.inn 0 1024) ++ (r.inn' 0 1024).rep.bytes:=by rename_i hk; simp [Mail.body,hk]
  rw [e,List.length_append] at hl
  have:=sm.vals
  exact ⟨⟨zl.links,zl.link,zl.linksW,zl.pieces,zl.pcs⟩,z.plan,z.planq,z.req,by show (r.inn' 0 1024).rep.bytes.length ≤ _; omega,by omega,z.blk,z.blkq,z.votes⟩
 split
 ·intro hl sm
  have e:({ Mail.zero with kind:=k,blk:=r.blk,cert:=certF.rd r.blk' }:Mail).body = r.blk.bytes ++ (certF.rd r.blk').bytes:=by rename_i hk; simp [Mail.body,hk]
  rw [e,List.length_append] at hl
  exact ⟨⟨zl.links,zl.link,zl.linksW,zl.pieces,zl.pcs⟩,z.plan,z.planq,z.req,z.rep,z.repn,by show r.blk.bytes.length ≤ _; omega,sm.blkq,sm.cert.1⟩
 split
 ·intro _ _
  exact ⟨⟨zl.links,zl.link,zl.linksW,zl.pieces,zl.pcs⟩,z.plan,z.planq,z.req,z.rep,z.repn,z.blk,z.blkq,z.votes⟩
 split
 ·intro hl sm
  have e:({ Mail.zero with kind:=k,links:=linksF.rd r }:Mail).body = linksF.wr (linksF.rd r):=by rename_i hk; simp [Mail.body,hk]
  rw [e,JRR,List.length_append] at hl
  have h1:=JSq (linksF.rd r)
  refine ⟨⟨sm.linksn,?_,by show (linksW (linksF.rd r)).length ≤ _; omega,zl.pieces,zl.pcs⟩,z.plan,z.planq,z.req,z.rep,z.repn,z.blk,z.blkq,z.votes⟩
  intro l hm
  have hs:=sm.links l hm
  have hb:(linkF.wr l).length ≤ ((linksF.rd r).flatMap linkF.wr).length:=J0Y (f:=linkF.wr) hm
  rw [JQ3,List.length_append] at hb
  exact ⟨hs.1,hs.2.1.1,hs.2.2,by omega⟩
 split
 ·intro hl sm
  have e:({ Mail.zero with kind:=k,blk:=r.blk,cert:=certF.rd r.blk',pieces:=piecesF.rd (certF.rd' r.blk') }:Mail).body = r.blk.bytes ++ (certF.rd r.blk').bytes ++ piecesF.wr (piecesF.rd (certF.rd' r.blk')):=by rename_i hk; simp [Mail.body,hk]
  rw [e,List.length_append,List.length_append,JLo,List.length_append] at hl
  have e2:((piecesF.rd (certF.rd' r.blk')).flatMap Piece.bytes).length = (pcsB (piecesF.rd (certF.rd' r.blk'))).length:=rfl
  rw [e2] at hl
  exact ⟨⟨zl.links,zl.link,zl.linksW,sm.piecesn,by show (pcsB (piecesF.rd (certF.rd' r.blk'))).length ≤ _; omega⟩,z.plan,z.planq,z.req,z.rep,z.repn,by show r.blk.bytes.length ≤ _; omega,sm.blkq,sm.cert.1⟩
 ·intro _ _
  exact ⟨⟨zl.links,zl.link,zl.linksW,zl.pieces,zl.pcs⟩,z.plan,z.planq,z.req,z.rep,z.repn,z.blk,z.blkq,z.votes⟩
theorem JZ5 (b:Bytes) (h:decE b = 0) (hb:b.length ≤ 900000) : (decM b).Lim := by
 have h1:=(JVX b h).1
 have hl:(decM b).body.length ≤ 1000000:=by
  have:=congrArg List.length h1
  simp only [Mail.bytes,List.length_append] at this
  omega
 revert hl
 unfold decM
 split
 ·intro _; exact JNr
 ·split
  ·intro hl; exact J0R _ _ hl
  ·intro _; exact JNr
end
section
open Go
set_option maxHeartbeats 8000000
variable {G:Nat → Option AV}
attribute [local irreducible] sha comp hb checkK idxOf Conf.good decM decE encB encE Req.good
def cli0 (id:Int) (first:Conf) : Cli := ⟨id,first,first,Req.zero,false,0,0,[],Rep.zero⟩
theorem JPM (id:Int) (first:Conf) (h1:1 ≤ id) (h2:id ≤ 64) (h3:first.good = true) (hl:first.ms.length ≤ 1000000) : Meets Tryz.prog G JjK [.v (.int .i64 id),first.av] [] false (.tup [.ptr 1000 1 0,.v (.int .i64 0)])
 [(1000,.var 1 (cliV 1 (cli0 id first))),(1001,.ob 1 (.map false 1 true 4) (.node [.node [],.v (.int .i64 0)]))]:=by
 refine Jc mix JRJ ⟨by simp [cliV,cli0],by simp,by simp⟩ ?_
 have m1:=JpS (G:=G) first
 rw [h3] at m1
 have m2:=JYC (G:=G) first.ms hl
 have c1:¬ id < 1:=by omega
 have c2:¬ 64 < id:=by omega
 simp [c1,c2,Conf.av]
 refine Ja m1 ?_ ?_
 ·simp [Conf.av]
 simp
 refine Ja m2 ?_ ?_
 ·simp
 simp
 refine Jb (.inr rfl) ?_
 simp [cliV,cli0,Conf.av,Req.av,Req.zero,Chg.av,Chg.zero,Rep.avS,Rep.zero,dv]
theorem JkO (c:Cli) (h:c.opn = true ∨ c.req.num = 0) : Meets Tryz.prog G JH [.ptr 1000 0 0] (cliM c) false (.tup [Rep.zero.avS,.v (.bool false)]) (cliM c) := by
 refine Jc mix JhN ⟨by simp [cliM,cliV,cliT],by simp,by simp [cliM]⟩ ?_
 cases ho:c.opn
 ·have h0:c.req.num = 0:=h.resolve_left (by simp [ho])
  simp [cliM,cliV,cliT,Req.av,Chg.av,dv,ho,h0]
  refine Jb (.inr rfl) ?_
  simp [Rep.avS,Rep.zero]
 ·simp [cliM,cliV,cliT,Req.av,Chg.av,dv,ho]
  refine Jb (.inr rfl) ?_
  simp [Rep.avS,Rep.zero]
theorem JkH (c:Cli) (h:c.opn = false) (h0:c.req.num ≠ 0) (hl:c.rep.vals.length ≤ 1000000) : Meets Tryz.prog G JH [.ptr 1000 0 0] (cliM c) false (.tup [c.rep.avS,.v (.bool true)]) (cliM c) := by
 refine Jc mix JhN ⟨by simp [cliM,cliV,cliT],by simp,by simp [cliM]⟩ ?_
 have m2:=JY2 (G:=G) c.rep.vals hl
 simp [cliM,cliV,cliT,Req.av,Chg.av,dv,h,h0,Rep.avS]
 refine Ja m2 ?_ ?_
 ·simp
 simp
 refine Jb (.inr rfl) ?_
 simp [Rep.avS]
def opV (q:Req) : AV := .node [.v (.int .i64 q.kind),.v (.string (mkS q.key)),.v (.string (mkS q.val)),.v (.string (mkS q.old)),q.ch.av]
def mailQ (q:Req) : Mail := { Mail.zero with kind:=3,req:=q }
def postL (m:Mail) : List AV := if encE m = 0 then [.node [.v (.int .i64 0),.v (.string (mkS (encB m)))]] else []
theorem JZt (q:Req) (h:q.bytes.length ≤ 3000000) : (mailQ q).Lim := by
 have z:=JNr
 have zl:=z.l
 exact ⟨⟨zl.links,zl.link,zl.linksW,zl.pieces,zl.pcs⟩,z.plan,z.planq,h,z.rep,z.repn,z.blk,z.blkq,z.votes⟩
@[simp] theorem JMg (m:Mail) : closeds (postL m) = true := by
 unfold postL
 split <;> simp
theorem JXc (m:Mail) (hm:m.Lim) : Meets Tryz.prog G Jm7 [m.av] [] false (.sl 2 (postL m)) [] := by
 refine Jc mix JQF ⟨by simp,by simp,by simp⟩ ?_
 have m1:=JTJ (G:=G) m hm
 unfold postL
 by_cases h:encE m = 0
 ·simp [Mail.av]
  refine Ja m1 ?_ ?_
  ·simp [Mail.av]
  simp [h,Mail.av]
  refine Jb (.inr rfl) ?_
  simp [h]
 ·simp [Mail.av]
  refine Ja m1 ?_ ?_
  ·simp [Mail.av]
  simp [h,Mail.av]
  refine Jb (.inr rfl) ?_
  simp [h]
end
section
open Go
set_option maxHeartbeats 8000000
variable {G:Nat → Option AV}
attribute [local irreducible] sha comp hb checkK idxOf Conf.good decM decE encB encE Req.good
theorem JN7 (c:Cli) (a:Rep) (hc:c.Ok) (ha:a.Tame) : Meets Tryz.prog G J6 [.ptr 1000 0 0,a.avS] (cliM c) false (.tup []) (cliM (countC c a)) := by
 refine Jc mix Jub ⟨by simp [cliM,cliV,cliT],by simp,by simp [cliM]⟩ ?_
 have hct:=hc.told
 have hcb:=hc.base
 have hfew:=hc.few
 have m9:=JUu (G:=G) c.conf (by omega)
 simp [cliM,cliV,cliT]
 refine go_wh (fun (s:List Int)=>c.told.length - s.length) (fun s=>Vis (domF c.base c.told.length) s)
  (fun s q=>⟨[(0,.ptr 1000 0 0),(3,.ptr 3 q 0),(4,.v (.int .i64 ((visT c.base c.told s).countP (okA c.conf a):Nat))),(14,.oref 14 q false)],
  (3,.var q a.avS) :: (14,.ob q .iter (.node [.oref 1001 0 true,.v (.int .i64 ((c.base + c.told.length:Nat):Int)),.v (.int .i64 ((c.base + c.told.length:Nat):Int)),.node (stampsA s)])) :: cliM c,q + 1⟩) [] _ (Weak.re1 1000 (by simp [cliM,cliV,cliT,stampsA,visT])) (Vis.nil _) ?_
 rintro vis q hv
 simp [cliM,cliV,cliT]
 refine go_next rfl rfl rfl (by simp) (by simp) (fun e he=>?_) ?_ ?_
 ·obtain ⟨j,hj,rfl⟩:=JNz c.told c.base e he
  exact ⟨_,rfl,by omega⟩
 ·intro hall
  have hp:(visT c.base c.told vis).Perm c.told:=visT_all hv fun j hj=>by
   obtain ⟨n,hn1,hn2⟩:=hall _ (J4B c.told c.base j hj)
   have e:n = ((c.base + j:Nat):Int):=(Option.some.inj hn2).symm
   rw [e] at hn1
   exact hn1
  rw [hp.countP_eq]
  by_cases hw:faults c.conf.ms.length + 1 ≤ c.told.countP (okA c.conf a)
  ·have hC:countC c a = { c with opn:=false,rep:=a }:=if_pos hw
   have hge:((faults c.conf.ms.length:Nat):Int) + 1 ≤ (c.told.countP (okA c.conf a):Nat):=by omega
   rw [hC]
   generalize c.told.countP (okA c.conf a) = N at *
   simp
   refine Ja m9 ?_ ?_
   ·simp
   simp [hge]
   refine Jb (.inl rfl) ?_
   simp
  ·have hC:countC c a = c:=if_neg hw
   have hge:¬ ((faults c.conf.ms.length:Nat):Int) + 1 ≤ (c.told.countP (okA c.conf a):Nat):=by omega
   rw [hC]
   generalize c.told.countP (okA c.conf a) = N at *
   simp
   refine Ja m9 ?_ ?_
   ·simp
   simp [hge]
   refine Jb (.inl rfl) ?_
   simp
 ·intro e i he hi hni
  obtain ⟨j,hj,rfl⟩:=JNz c.told c.base e he
  have hij:i = ((c.base + j:Nat):Int):=(Option.some.inj hi).symm
  subst hij
  have hdj:((c.base + j:Nat):Int) ∈ domF c.base c.told.length:=JWg.2 ⟨j,hj,rfl⟩
  have hv2:=hv.snoc hdj hni
  have hdl:(domF c.base c.told.length).length = c.told.length:=by simp [domF]
  have hlt:vis.length < c.told.length:=by have:=hv.lt hdj hni; omega
  have hfb:=JPO c.told c.base j hj
  have hsn:=JY5 c.base c.told vis hj
  have hcl:(visT c.base c.told vis).countP (okA c.conf a) ≤ 1000:=by
   have h1:=List.countP_le_length (p:=okA c.conf a) (l:=visT c.base c.told vis)
   have h2:(visT c.base c.told vis).length ≤ vis.length:=List.length_filterMap_le _ _
   omega
  obtain ⟨p,hpj⟩:∃ p,c.told[j] = p:=⟨_,rfl⟩
  have hpT:p.2.Tame:=hc.reps p (hpj ▸ List.getElem_mem hj)
  rw [hpj] at hfb hsn
  obtain ⟨k,b⟩:=p
  have hmu:c.told.length - (vis ++ [((c.base + j:Nat):Int)]).length < c.told.length - vis.length:=by rw [List.length_append,List.length_singleton]; omega
  obtain ⟨st,hst⟩:∃ st:Int,((c.base + j:Nat):Int) = st:=⟨_,rfl⟩
  have hcn:(visT c.base c.told (vis ++ [st])).countP (okA c.conf a) = (visT c.base c.told vis).countP (okA c.conf a) + (if okA c.conf a (k,b) = true then 1 else 0):=by
   rw [← hst,hsn,List.countP_append,List.countP_singleton]
  rw [hst] at hfb hv2 hmu hni
  dsimp only at hpT hfb
  have m3:=JTX (G:=G) a b ha.bytes hpT.bytes ha.vals hpT.vals
  generalize (visT c.base c.told vis).countP (okA c.conf a) = N at *
  have hw:IntKind.i64.wrap ((N:Int) + 1) = ((N + 1:Nat):Int):=Jf (by omega)
  simp [hpj,hst]
  refine go_entry (entA (.v (.int .i64 k)) b.avS st) rfl rfl rfl (by simp) (fun e he=>?_) hfb rfl rfl rfl rfl ?_
  ·obtain ⟨j2,hj2,rfl⟩:=JNz c.told c.base e he
   exact ⟨_,rfl⟩
  rcases JLh c.conf.ms k with hk | ⟨i,hi1,hi2⟩
  ·have m2:=JRq (G:=G) (c:=c.conf) (id:=k) hc.ms hk
   have ho:okA c.conf a (k,b) = false:=by simp [okA,hk]
   rw [ho] at hcn
   simp
   refine Ja m2 ?_ ?_
   ·simp
   simp
   exact ⟨vis ++ [st],_,Weak.re1 1000 (by simp [cliM,cliV,cliT,hcn]),hv2,hmu⟩
  ·have m2:=JR9 (G:=G) (c:=c.conf) (id:=k) hi1 hi2
   by_cases hb:a.bytes = b.bytes
   ·have ho:okA c.conf a (k,b) = true:=by simp [okA,hi2,hb]
    rw [ho] at hcn
    rw [decide_eq_true hb] at m3
    simp
    refine Ja m2 ?_ ?_
    ·simp
    simp
    refine Ja m3 ?_ ?_
    ·simp
    simp [hw]
    exact ⟨vis ++ [st],_,Weak.re1 1000 (by simp [cliM,cliV,cliT,hcn]),hv2,hmu⟩
   ·have ho:okA c.conf a (k,b) = false:=by simp [okA,hb]
    rw [ho] at hcn
    rw [decide_eq_false hb] at m3
    simp
    refine Ja m2 ?_ ?_
    ·simp
    simp
    refine Ja m3 ?_ ?_
    ·simp
    simp
    exact ⟨vis ++ [st],_,Weak.re1 1000 (by simp [cliM,cliV,cliT,hcn]),hv2,hmu⟩
end
section
open Go
set_option maxHeartbeats 8000000
variable {G:Nat → Option AV}
attribute [local irreducible] sha comp hb checkK idxOf Conf.good decM decE encB encE Req.good
theorem JRu (c:Cli) (k:Int) (a:Rep) (hc:c.Ok) (hl:c.told.length + 1 ≤ 1000) (ha:a.Tame) : Meets Tryz.prog G Jbi [.ptr 1000 0 0,.v (.int .i64 k),a.avS] (cliM c) false (.tup []) (cliM (answerC c k a)) := by
 refine Jc mix JtS ⟨by simp [cliM,cliV,cliT],by simp,by simp [cliM]⟩ ?_
 by_cases h1:c.opn = false
 ·have hA:answerC c k a = c:=if_pos (.inl h1)
  rw [hA]
  simp [cliM,cliV,cliT,h1,Rep.avS]
  refine Jb (.inr rfl) ?_
  simp [Rep.avS]
 have h1':c.opn = true:=by simpa using h1
 by_cases h2:a.client ≠ c.id
 ·have hA:answerC c k a = c:=if_pos (.inr (.inl h2))
  rw [hA]
  simp [cliM,cliV,cliT,h1',h2,Rep.avS]
  refine Jb (.inr rfl) ?_
  simp [Rep.avS]
 have h2':a.client = c.id:=by simpa using h2
 by_cases h3:a.num ≠ c.req.num
 ·have hA:answerC c k a = c:=if_pos (.inr (.inr h3))
  rw [hA]
  simp [cliM,cliV,cliT,h1',h2',h3,Rep.avS,Req.av,Chg.av,dv]
  refine Jb (.inr rfl) ?_
  simp [Rep.avS]
 have h3':a.num = c.req.num:=by simpa using h3
 have hA:answerC c k a = countC { c with told:=putT c.told k a } a:=if_neg (fun h=>h.elim h1 fun h=>h.elim h2 h3)
 rw [hA]
 have hlen:=JQL c.told k a
 have hok:Cli.Ok { c with told:=putT c.told k a }:=⟨hc.ms,hc.few,by show (putT c.told k a).length ≤ 1000; omega,hc.base,fun p hp=>by
  rcases JKz hp with h | rfl
  ·exact hc.reps p h
  ·exact ha,hc.rep⟩
 have m1:=JN7 (G:=G) { c with told:=putT c.told k a } a hok ha
 generalize countC { c with told:=putT c.told k a } a = c2 at *
 have hfa:=JNV k c.told c.base
 cases hi:c.told.findIdx? (fun p=>decide (p.1 = k)) with
 | none =>
   have hp:putT c.told k a = c.told ++ [(k,a)]:=by unfold putT; rw [hi]
   rw [hp] at m1
   rw [hi] at hfa
   have hsn:=JSX (k,a) c.told c.base
   have hcb:=hc.base
   have hct:=hc.told
   have hw:IntKind.i64.wrap (((c.base:Int) + (c.told.length:Int)) + 1) = (c.base:Int) + (c.told.length:Int) + 1:=Jp (by omega)
   have hcs:cmpA (Sh.int .i64) (.v (.int .i64 k)) (.v (.int .i64 k)) = some true:=by simp [cmpA]
   have hbl:(((c.base + c.told.length:Nat):Int)) = (c.base:Int) + (c.told.length:Int):=by omega
   simp only [Rep.avS,h2',h3',hbl] at hsn
   simp [cliM,cliV,cliT,h1',h2',h3',Rep.avS,Req.av,Chg.av,dv,hfa,hcs,hw,hsn]
   have hb2:(((c.base + (c.told ++ [(k,a)]).length:Nat):Int)) = (c.base:Int) + (c.told.length:Int) + 1:=by simp; omega
   simp only [cliM,cliV,cliT,Rep.avS,Req.av,Chg.av,dv,h1',h2',h3',hb2] at m1
   refine Ja m1 ?_ ?_
   ·simp
   simp
   refine Jb (.inl rfl) ?_
   simp [cliM,cliV,cliT,Rep.avS,Req.av,Chg.av,dv]
 | some i =>
   have hp:putT c.told k a = c.told.set i (k,a):=by unfold putT; rw [hi]
   rw [hp] at m1
   rw [hi] at hfa
   obtain ⟨hlt,hpk,_⟩:=List.findIdx?_eq_some_iff_getElem.1 hi
   have hset:=JWo (k,a) c.told c.base i
   have hge:=JNy c.told c.base i
   rw [List.getElem?_eq_getElem hlt,Option.map_some] at hge
   have hcs:cmpA (Sh.int .i64) (.v (.int .i64 k)) (.v (.int .i64 k)) = some true:=by simp [cmpA]
   have hbi:(((c.base + i:Nat):Int)) = (c.base:Int) + (i:Int):=by omega
   simp only [Rep.avS,h2',h3',hbi] at hset
   simp [cliM,cliV,cliT,h1',h2',h3',Rep.avS,Req.av,Chg.av,dv,hfa,hge,hcs,hset]
   have hb2:(((c.base + (c.told.set i (k,a)).length:Nat):Int)) = (c.base:Int) + (c.told.length:Int):=by simp
   simp only [cliM,cliV,cliT,Rep.avS,Req.av,Chg.av,dv,h1',h2',h3',hb2] at m1
   refine Ja m1 ?_ ?_
   ·simp
   simp
   refine Jb (.inl rfl) ?_
   simp [cliM,cliV,cliT,Rep.avS,Req.av,Chg.av,dv]
end
section
open Go
set_option maxHeartbeats 8000000
attribute [local irreducible] sha comp hb checkK idxOf Conf.good decM decE encB encE Req.good runK stepK
theorem JZJ (T:List (Int × Rep)) (k:Int) : lookT T k = ((T.findIdx? fun p=>decide (p.1 = k)).bind fun i=>T[i]?).map (·.2) := by
 unfold lookT
 congr 1
 induction T with
 | nil=>rfl
 | cons p T ih =>
   rw [List.find?_cons,List.findIdx?_cons]
   cases h:decide (p.1 = k)
   ·simp only [Bool.false_eq_true,if_false,ih]
    cases T.findIdx? (fun p=>decide (p.1 = k)) <;> simp
   ·simp
theorem JTt : ∀ (ls:List Lnk) (c:Conf) (h:Int) (i:Nat),(runK c h ls i).2.2 = 0 → (runK c h ls i).1 = c ∨ ∃ l ∈ ls,(runK c h ls i).1 = l.conf ∧ l.conf.good = true
 | [],c,h,i,_=>.inl (by unfold runK; rfl)
 | l :: ls,c,h,i,h0=>by
   unfold runK at h0 ⊢
   by_cases hs:stepK c h l = 0
   ·rw [if_pos hs] at h0 ⊢
    have hg:l.conf.good = true:=by
     unfold stepK at hs
     by_cases h1:l.blk.height ≤ h ∨ l.conf.good = false ∨ l.conf.epoch ≤ c.epoch
     ·rw [if_pos h1] at hs; cases hs
     ·cases hgg:l.conf.good
      ·exact absurd (.inr (.inl hgg)) h1
      ·rfl
    rcases JTt ls l.conf l.blk.height (i + 1) h0 with e | ⟨m,hm,e⟩
    ·exact .inr ⟨l,List.mem_cons_self,e,hg⟩
    ·exact .inr ⟨m,List.mem_cons_of_mem _ hm,e⟩
   ·rw [if_neg hs] at h0 ⊢
    exact absurd h0 hs
theorem JRi {c:Conf} (h:c.good = true) : c.ms ≠ [] ∧ c.ms.length ≤ 10 := by
 unfold Conf.good at h
 simp only [Bool.and_eq_true,decide_eq_true_eq] at h
 exact ⟨List.length_pos_iff.1 h.1.1.2,h.1.2⟩
theorem JSw {c:Conf} {ls:List Lnk} (h:(checkL c ls).2.2 = 0) : (checkL c ls).1.ms ≠ [] ∧ (checkL c ls).1.ms.length ≤ 10 := by
 unfold checkL at h ⊢
 by_cases h1:c.good = false
 ·rw [if_pos h1] at h; cases h
 rw [if_neg h1] at h ⊢
 by_cases h2:1024 < ls.length
 ·rw [if_pos h2] at h; cases h
 rw [if_neg h2] at h ⊢
 rcases JTt ls c 0 0 h with e | ⟨l,_,e,hg⟩
 ·rw [e]; exact JRi (by simpa using h1)
 ·rw [e]; exact JRi hg
theorem JXm (c:Cli) (k:Int) (f:Bytes) (hc:c.Ok) (hl:c.told.length + 1 ≤ 1000) (hf:f.length ≤ 900000) (ha:decE f = 0 → (decM f).kind = 4 → (decM f).rep.Tame) (ht:decE f = 0 → (decM f).kind = 8 → Tames c.first (decM f).links) :
 Meets Tryz.prog Gt JK [.ptr 1000 0 0,.v (.int .i64 k),.v (.string (mkS f))] (cliM c) false (.tup []) (cliM (hearC c k f)):=by
 refine Jc mix JAB ⟨by simp [cliM,cliV,cliT],by simp,by simp [cliM]⟩ ?_
 have m1:=Jhl (G:=Gt) f (by omega)
 have f1:f.length ≤ maxLen:=by simp only [maxLen]; omega
 unfold hearC
 generalize decE f = e at *
 generalize decM f = m at *
 by_cases h1:e ≠ 0
 ·rw [if_pos h1]
  simp [cliM,cliV,cliT,f1]
  refine Ja m1 ?_ ?_
  ·simp
  simp [h1,Mail.av]
  refine Jb (.inr rfl) ?_
  simp [cliM,cliV,cliT]
 have h1':e = 0:=by simpa using h1
 subst h1'
 rw [if_neg h1]
 have ha:=ha rfl
 have ht:=ht rfl
 by_cases h2:m.kind = 4
 ·rw [if_pos h2]
  have m2:=JRu (G:=Gt) c k m.rep hc hl (ha h2)
  generalize answerC c k m.rep = c2 at *
  simp [cliM,cliV,cliT,f1]
  refine Ja m1 ?_ ?_
  ·simp
  simp [h2,Mail.av]
  refine Ja m2 ?_ ?_
  ·simp [cliM,cliV,cliT]
  simp [cliM,cliV,cliT]
  refine Jb (.inl rfl) ?_
  simp [cliM,cliV,cliT]
 rw [if_neg h2]
 by_cases h3:m.kind = 8
 ·rw [if_pos h3]
  have m3:=JQB c.first m.links (ht h3)
  have hms:=JSw (c:=c.first) (ls:=m.links)
  unfold linksC
  generalize checkL c.first m.links = r at *
  by_cases h4:r.2.2 = 0
  ·have hms:=hms h4
   by_cases h5:c.conf.epoch < r.1.epoch
   ·rw [if_pos ⟨h4,h5⟩]
    obtain ⟨c1,hc1⟩:∃ c1,c1 = { c with conf:=r.1 }:=⟨_,rfl⟩
    have hok1:c1.Ok:=by rw [hc1]; exact ⟨hms.1,Nat.le_trans hms.2 (by omega),hc.told,hc.base,hc.reps,hc.rep⟩
    obtain ⟨F,hF⟩:∃ F,F = r.1.ms.foldl reC { c with conf:=r.1 }:=⟨_,rfl⟩
    rw [← hF]
    rw [← hc1] at hF
    have e1:c1.id = c.id ∧ c1.first = c.first ∧ c1.conf = r.1 ∧ c1.req = c.req ∧ c1.opn = c.opn ∧ c1.ticks = c.ticks ∧ c1.base = c.base ∧ c1.told = c.told ∧ c1.rep = c.rep:=by rw [hc1]; simp
    obtain ⟨g1,g2,g3,g4,g5,g6,g7,g8,g9⟩:=e1
    have hms2:=hms.2
    simp [cliM,cliV,cliT,f1]
    refine Ja m1 ?_ ?_
    ·simp
    simp [h2,h3,Mail.av]
    refine Ja m3 ?_ ?_
    ·simp
    simp [chAv,h4,h5,Conf.av]
    refine go_up r.1.ms.length (fun j (x:Cli)=>x = (r.1.ms.take j).foldl reC c1 ∧ x.Ok) (fun j x q=>⟨[(0,.ptr 1000 0 0),(64,.sl 34 (Mems r.1.ms)),(65,.v (.int .i64 (r.1.ms.length:Nat))),(66,.v (.int .i64 (j:Nat)))],cliM x,q + 1⟩) c1 _ (Weak.re1 1000 (by simp [cliM,cliV,cliT,Conf.av,g1,g2,g3,g4,g5,g6,g7,g8,g9])) ⟨by simp,hok1⟩ ?_ ?_
    ·rintro j x q hj ⟨hx,hxo⟩
     have hw:IntKind.i64.wrap ((j:Int) + 1) = ((j + 1:Nat):Int):=Jf (by omega)
     have hx2:(r.1.ms.take (j + 1)).foldl reC c1 = reC x r.1.ms[j]:=by
      rw [List.take_add_one,List.getElem?_eq_getElem hj,List.foldl_append,← hx]
      rfl
     have hro:=J2v (m:=r.1.ms[j]) hxo
     have hlk:=JZJ x.told (r.1.ms[j]).id
     have hfa:=JNV (r.1.ms[j]).id x.told x.base
     obtain ⟨mm,hmm⟩:∃ mm,r.1.ms[j] = mm:=⟨_,rfl⟩
     rw [hmm] at hx2 hro hlk hfa
     have hcs:cmpA (Sh.int .i64) (.v (.int .i64 mm.id)) (.v (.int .i64 mm.id)) = some true:=by simp [cmpA]
     clear m1 m3 hF hc1 g1 g2 g3 g4 g5 g6 g7 g8 g9
     cases hi:x.told.findIdx? (fun p=>decide (p.1 = mm.id)) with
     | none =>
       rw [hi] at hfa hlk
       have hR:reC x mm = x:=by unfold reC; rw [hlk]; rfl
       rw [hR] at hx2
       simp [cliM,cliV,cliT,hj,hmm,Mem.av,hfa,hcs,hw]
       exact ⟨x,_,Weak.re1 1000 (by simp [cliM,cliV,cliT]),hx2.symm,hxo⟩
     | some i =>
       rw [hi] at hfa hlk
       obtain ⟨hlt,hpk,_⟩:=List.findIdx?_eq_some_iff_getElem.1 hi
       have hge:=JNy x.told x.base i
       rw [List.getElem?_eq_getElem hlt,Option.map_some] at hge
       simp only [Option.bind_some,List.getElem?_eq_getElem hlt,Option.map_some] at hlk
       have hta:=hxo.reps _ (List.getElem_mem hlt)
       obtain ⟨pp,hpp⟩:∃ pp,x.told[i] = pp:=⟨_,rfl⟩
       rw [hpp] at hge hlk hta
       obtain ⟨k2,a⟩:=pp
       dsimp only at hge hlk hta
       have m4:=JN7 (G:=Gt) x a hxo hta
       have hag:a.avS.isAgg = true:=rfl
       cases ho:x.opn with
       | false =>
         have hR:reC x mm = x:=by unfold reC; rw [hlk]; simp [ho]
         rw [hR] at hx2
         simp [cliM,cliV,cliT,hj,hmm,Mem.av,hfa,hcs,hw,hge,hag,ho]
         exact ⟨x,_,Weak.re1 1000 (by simp [cliM,cliV,cliT,ho]),hx2.symm,hxo⟩
       | true =>
         have hR:reC x mm = countC x a:=by unfold reC; rw [hlk]; simp [ho]
         rw [hR] at hx2 hro
         generalize countC x a = y at *
         simp [cliM,cliV,cliT,hj,hmm,Mem.av,hfa,hcs,hw,hge,hag,ho]
         refine Ja m4 ?_ ?_
         ·simp [cliM,cliV,cliT,ho]
         simp [cliM,cliV,cliT,hw]
         exact ⟨y,_,Weak.re1 1000 (by simp [cliM,cliV,cliT]),hx2.symm,hro⟩
    ·rintro x q ⟨hx,hxo⟩
     rw [List.take_length,← hF] at hx
     subst hx
     simp [cliM,cliV,cliT]
     refine Jb (.inl rfl) ?_
     simp [cliM,cliV,cliT,Conf.av]
   ·rw [if_neg (fun h=>h5 h.2)]
    simp [cliM,cliV,cliT,f1]
    refine Ja m1 ?_ ?_
    ·simp
    simp [h2,h3,Mail.av]
    refine Ja m3 ?_ ?_
    ·simp
    simp [chAv,h4,h5,Conf.av]
    refine Jb (.inl rfl) ?_
    simp [cliM,cliV,cliT,Conf.av]
  ·rw [if_neg (fun h=>h4 h.1)]
   simp [cliM,cliV,cliT,f1]
   refine Ja m1 ?_ ?_
   ·simp
   simp [h2,h3,Mail.av]
   refine Ja m3 ?_ ?_
   ·simp
   simp [chAv,h4,Conf.av]
   refine Jb (.inl rfl) ?_
   simp [cliM,cliV,cliT,Conf.av]
 ·rw [if_neg h3]
  simp [cliM,cliV,cliT,f1]
  refine Ja m1 ?_ ?_
  ·simp
  simp [h2,h3,Mail.av]
  refine Jb (.inl rfl) ?_
  simp [cliM,cliV,cliT]
end
section
open Go
set_option maxHeartbeats 4000000
attribute [local irreducible] sha comp hb checkK
theorem JYE {f:Bytes} (h:decE f = 0) (hf:f.length ≤ 900000) : (decM f).rep.Tame := by
 have l:=JZ5 f h hf
 exact ⟨by have:=l.rep; omega,l.repn⟩
theorem JZs {b:Bytes} (h:decE b = 0) (hk:(decM b).kind = 8) : linksF.good (decM b).links := by
 unfold decE at h
 split at h
 ·cases h
 rename_i hl
 split at h
 case isFalse=>cases h
 rename_i hd
 have e:decM b = (Rd.of b).mail:=by unfold decM; rw [if_neg hl,if_pos hd]
 rw [e] at hk ⊢
 simp only [Rd.done,Bool.and_eq_true,Bool.not_eq_true',decide_eq_true_eq] at hd
 have h1:(bodyRd' ((Rd.of b).inn 1 9) ((Rd.of b).inn' 1 9)).bad = false:=hd.1
 have hkk:=(JRb _ _ h1).2.2.2
 have h8:(Rd.of b).inn 1 9 = 8:=by
  have:(Rd.of b).mail.kind = (Rd.of b).inn 1 9:=hkk
  omega
 rw [h8] at h1
 have e2:(Rd.of b).mail = bodyRd 8 ((Rd.of b).inn' 1 9):=by
  show bodyRd ((Rd.of b).inn 1 9) _ = _
  rw [h8]
 rw [e2]
 exact (JQa.one _ h1).2.2.2
theorem JZf : ∀ (ms l:List Mem),repG memF l ms → ∀ m ∈ ms,W64 m.height
 | [],_,_,_,h=>by cases h
 | a :: ms,l,h,m,hm=>by
   rcases List.mem_cons.1 hm with rfl | hm
   ·exact h.1.2.1.1
   ·exact JZf ms (l ++ [a]) h.2 m hm
theorem JZm {c:Conf} {f:Bytes} (hc:c.calm) (h:decE f = 0) (hk:(decM f).kind = 8) (hf:f.length ≤ 900000) : Tames c (decM f).links := by
 have hg:=JZs h hk
 have hl:=(JZ5 f h hf).l
 obtain ⟨⟨_,_,h2⟩,h3⟩:=hg
 have h4:repG (fun _=>linkF) [] (decM f).links:=h3.2
 rw [Jdf] at h4
 have h2':((decM f).links.length:Int) ≤ 1024:=h2
 refine ⟨by omega,hc.1,hc.2,fun l hm=>?_⟩
 obtain ⟨_,⟨_,⟨_,_,hv1⟩,hv2⟩,_,⟨_,_,hm1⟩,hm2⟩:=h4 l hm
 have hv3:repG (fun _=>voteF) [] l.cert.votes:=hv2.2
 rw [Jdf] at hv3
 have hv1':(l.cert.votes.length:Int) ≤ 10:=hv1
 have hm1':(l.conf.ms.length:Int) ≤ 10:=hm1
 obtain ⟨k1,k2,k3,k4⟩:=hl.link l hm
 exact ⟨by omega,JZf _ _ hm2.2,fun v hv=>(hv3 v hv).2.2.2.2.2.2.1,by omega,by omega,by omega⟩
theorem Jkn (c:Cli) (k:Int) (f:Bytes) (hc:c.Ok) (hl:c.told.length + 1 ≤ 1000) (hf:f.length ≤ 900000) (hq:c.first.calm) :
 Meets Tryz.prog Gt JK [.ptr 1000 0 0,.v (.int .i64 k),.v (.string (mkS f))] (cliM c) false (.tup []) (cliM (hearC c k f)) :=
 JXm c k f hc hl hf (fun h _=>JYE h hf) (fun h hk=>JZm hq h hk hf)
end
section
open Go
set_option maxHeartbeats 8000000
variable {G:Nat → Option AV}
attribute [local irreducible] sha comp hb checkK idxOf Conf.good decM decE encB encE Req.good
theorem JRB (m:Mail) (hk:m.kind = 4) (hb:m.rep.bytes.length ≤ 3000000) (hn:m.rep.vals.length ≤ 1000000) : Meets Tryz.prog G JGf [m.av] [] true (.tup [.v (.string (mkS (be8 m.height ++ m.rep.bytes))),.v (.bool true)]) [] := by
 refine Jc mix JXF ⟨by simp,by simp,by simp⟩ ?_
 have m1:=Jp0 (G:=G) m.height
 have m2:=JQM (G:=G) m.rep (by omega) hn
 have f1:fitsS ((be8 m.height).length + m.rep.bytes.length):=fitS (by simp; omega)
 generalize m.rep.bytes = y at *
 generalize be8 m.height = x at *
 simp [Mail.av,hk]
 refine Ja m1 ?_ ?_
 ·simp [Mail.av]
 simp [Mail.av]
 refine Ja m2 ?_ ?_
 ·simp [Mail.av]
 simp [Mail.av,f1]
 refine Jb (.inr rfl) ?_
 simp
theorem enc4 {m:Mail} (hk:m.kind = 4) : m.bytes = be8 4 ++ (be8 m.height ++ m.rep.bytes) ∧ m.ok = true := by
 refine ⟨?_,?_⟩
 ·unfold Mail.bytes Mail.body; simp [hk]
 ·unfold Mail.ok; simp [hk]
theorem JPt (m:Mail) (hk:m.kind = 4) (hb:m.rep.bytes.length ≤ 900000) (hn:m.rep.vals.length ≤ 1000000) : Meets Tryz.prog G Jp4 [m.av] [] false (.tup [.v (.string (mkS (encB m))),.v (.int .i64 (encE m))]) [] := by
 refine Jc mix JTN ⟨by simp,by simp,by simp⟩ ?_
 have m1:=JRB (G:=G) m hk (by omega) hn
 have m2:=Jp0 (G:=G) 4
 obtain ⟨hbt,hok⟩:=enc4 hk
 have hl:m.bytes.length = 16 + m.rep.bytes.length:=by rw [hbt]; simp; omega
 have m3:=JQK (G:=G) m.bytes (by omega)
 have he:encE m = if 262144 < m.bytes.length then 3 else if decE m.bytes = 0 then 0 else 1:=by unfold encE; rw [if_neg (by simp [hok])]
 have hB:encB m = if encE m = 0 then m.bytes else []:=by unfold encB; rfl
 rw [he] at hB
 have hx:(be8 m.height ++ m.rep.bytes).length = 8 + m.rep.bytes.length:=by simp
 have hx4:(be8 4).length = 8:=by simp
 rw [hbt] at he hB m3 hl
 generalize be8 m.height ++ m.rep.bytes = x at *
 have f1:fitsS ((be8 4).length + x.length):=fitS (by rw [hx4]; omega)
 generalize be8 4 = z at *
 have hzl:(z ++ x).length = z.length + x.length:=List.length_append
 rw [hzl] at he hB
 by_cases h1:262144 < z.length + x.length
 ·rw [if_pos h1] at he hB
  rw [if_neg (by omega)] at hB
  rw [he,hB]
  have h1i:(262144:Int) < (z.length:Int) + (x.length:Nat):=by omega
  simp [Mail.av,hk]
  refine Ja m1 ?_ ?_
  ·simp [Mail.av,hk]
  simp [Mail.av,hk]
  refine Ja m2 ?_ ?_
  ·simp [Mail.av]
  simp [Mail.av,f1,h1i]
  refine Jb (.inr rfl) ?_
  simp
 ·rw [if_neg h1] at he hB
  have h1i:¬ (262144:Int) < (z.length:Int) + (x.length:Nat):=by omega
  by_cases h2:decE (z ++ x) = 0
  ·rw [if_pos h2] at he hB
   rw [if_pos rfl] at hB
   rw [he,hB]
   simp [Mail.av,hk]
   refine Ja m1 ?_ ?_
   ·simp [Mail.av,hk]
   simp [Mail.av,hk]
   refine Ja m2 ?_ ?_
   ·simp [Mail.av]
   simp [Mail.av,f1,h1i]
   refine Ja m3 ?_ ?_
   ·simp
   simp [h2]
   refine Jb (.inr rfl) ?_
   simp
  ·rw [if_neg h2] at he hB
   rw [if_neg (by omega)] at hB
   rw [he,hB]
   simp [Mail.av,hk]
   refine Ja m1 ?_ ?_
   ·simp [Mail.av,hk]
   simp [Mail.av,hk]
   refine Ja m2 ?_ ?_
   ·simp [Mail.av]
   simp [Mail.av,f1,h1i]
   refine Ja m3 ?_ ?_
   ·simp
   simp [h2]
   refine Jb (.inr rfl) ?_
   simp
def ansM (a:Rep) : Mail := { Mail.zero with kind:=4,rep:=a }
theorem JGC (a:Rep) (hb:a.bytes.length ≤ 900000) (hn:a.vals.length ≤ 1000000) : Meets Tryz.prog G JbA [a.avS] [] false (.v (.string (mkS (encB (ansM a))))) [] := by
 refine Jc mix JS0 ⟨by simp,by simp,by simp⟩ ?_
 have m1:=JPt (G:=G) (ansM a) rfl hb hn
 generalize encB (ansM a) = y at *
 generalize encE (ansM a) = e at *
 simp [Rep.avS]
 refine Ja m1 ?_ ?_
 ·simp [ansM,Mail.av,Mail.zero,Plan.av,Plan.zero,Vote.av,Vote.zero,Req.av,Req.zero,Chg.av,Chg.zero,Rep.avS,Rep.zero,Blk.avS,Blk.zero,Cert.av,Cert.zero,Sig.avS,Sig.zero,dv]
 simp
 refine Jb (.inr rfl) ?_
 simp
def four22 : Conf := ⟨0,[⟨1,Dg.zero,0⟩,⟨2,Dg.zero,0⟩,⟨3,Dg.zero,0⟩,⟨4,Dg.zero,0⟩]⟩
theorem JTv : Meets Tryz.prog G JGk [] [] false four22.av [] := by
 refine Jc mix JXG ⟨by simp,by simp,by simp⟩ ?_
 simp
 refine Jb (.inr rfl) ?_
 simp [four22,Conf.av,Mems,Mem.av,dv]
end
end Go.Proofs.YtlajjoekbcjfnaaGreatDoor.WL
