import Derived.Test.YtlajjoekbcjfnaaGreatDoorWm14
namespace Go.Proofs.YtlajjoekbcjfnaaGreatDoor.WL
set_option linter.all false
section
open Go
set_option maxHeartbeats 8000000
variable {G:Nat → Option AV}
attribute [local irreducible] sha
attribute [local irreducible] Rd.sig Rd.sig' Rd.blk Rd.blk' Rd.inn Rd.inn' Rd.dg Rd.dg' Rd.rep Rd.rep' Rd.text Rd.text' Rd.req Rd.req' repR decM decE
theorem JYq (bs:Bytes) (hb:bs.length ≤ 67108864) : Meets Tryz.prog G Jr [.ptr 1000 0 0] (wrM 0 bs) false (.sl 1 (B bs)) (wrM 1 bs) := by
 have ht:List.take bs.length bs = bs:=List.take_of_length_le (by omega)
 refine (JbS bs hb).freeze ⟨by simp [wrM],by simp [wrM],by simp [wrM]⟩ ?_
 simp [wrM]
def linkW (l:Lnk) : Bytes := if l.cert.ok = true then linkF.wr l else []
structure Lnk.Lim (l:Lnk) : Prop where
 qs:l.blk.qs.length ≤ 1000
 votes:l.cert.votes.length ≤ 1000
 ms:l.conf.ms.length ≤ 1000
 blk:l.blk.bytes.length ≤ 3000000
theorem JXx (bs:Bytes) (l:Lnk) (h:l.Lim) (hb:bs.length ≤ 10000000) : Meets Tryz.prog G JbK [.ptr 1000 0 0,l.av] (wrM 0 bs) true (.v (.bool l.cert.ok)) (wrM 1 (bs ++ linkW l)) := by
 unfold linkW
 cases hk:l.cert.ok
 ·rw [if_neg (by simp),List.append_nil]
  exact JXj bs l hk h.votes
 ·rw [if_pos rfl]
  exact JSn bs l hk h.votes h.ms (by have:=h.qs; omega) (by have:=h.blk; omega)
def linksW (ls:List Lnk) : Bytes := ls.flatMap linkW
theorem JUQ (ls:List Lnk) (i:Nat) (h:i < ls.length) : linksW (ls.take (i + 1)) = linksW (ls.take i) ++ linkW ls[i] := by
 rw [List.take_succ_eq_append_getElem h]
 unfold linksW
 rw [List.flatMap_append]
 simp only [List.flatMap_cons,List.flatMap_nil,List.append_nil]
theorem JPb (ls:List Lnk) (i:Nat) : (linksW (ls.take i)).length ≤ (linksW ls).length := by
 conv=>rhs; rw [← List.take_append_drop i ls]
 simp only [linksW,List.flatMap_append,List.length_append]
 omega
theorem JZp (ls:List Lnk) (h:(ls.all fun l=>l.cert.ok) = true) : linksW ls = ls.flatMap linkF.wr := by
 induction ls with
 | nil=>rfl
 | cons l ls ih =>
   simp only [List.all_cons,Bool.and_eq_true] at h
   show linkW l ++ linksW ls = linkF.wr l ++ ls.flatMap linkF.wr
   rw [ih h.2]
   unfold linkW
   rw [if_pos h.1]
def pcsB (ps:List Piece) : Bytes := ps.flatMap Piece.bytes
theorem JRN (ls:List Piece) (i:Nat) (h:i < ls.length) : pcsB (ls.take (i + 1)) = pcsB (ls.take i) ++ ls[i].bytes := by
 rw [List.take_succ_eq_append_getElem h]
 unfold pcsB
 rw [List.flatMap_append]
 simp only [List.flatMap_cons,List.flatMap_nil,List.append_nil]
theorem JLS (ls:List Piece) (i:Nat) : (pcsB (ls.take i)).length ≤ (pcsB ls).length := by
 conv=>rhs; rw [← List.take_append_drop i ls]
 simp only [pcsB,List.flatMap_append,List.length_append]
 omega
theorem Piece.bytes_len (p:Piece) : p.bytes.length = 60 + 32 * p.path.length + p.data.length := by
 simp only [Piece.bytes,List.length_append,Jh,Jbq,Jo3,List.length_cons,List.length_nil]
 omega
theorem JQz {α:Type} (p:α → Bool) (l:List α) (i:Nat) (h:i < l.length) : (l.take (i + 1)).all p = ((l.take i).all p && p l[i]) := by
 rw [List.take_succ_eq_append_getElem h,List.all_append]
 simp only [List.all_cons,List.all_nil,Bool.and_true]
structure Mail.LimL (m:Mail) : Prop where
 links:m.links.length ≤ 10000
 link:∀ l ∈ m.links,l.Lim
 linksW:(linksW m.links).length ≤ 3000000
 pieces:m.pieces.length ≤ 10000
 pcs:(pcsB m.pieces).length ≤ 3000000
theorem JUf (bs:Bytes) (m:Mail) (hk:m.kind = 8) (h:m.LimL) (hb:bs.length ≤ 5000000) :
 Meets Tryz.prog G Jhh [.ptr 1000 0 0,m.av] (wrM 0 bs) true (.v (.bool (m.links.all fun l=>l.cert.ok))) (wrM 1 (bs ++ be8 (m.links.length:Int) ++ linksW m.links)):=by
 refine Jc mix JOJ ⟨by simp [wrM],by simp,by simp [wrM]⟩ ?_
 have m1:=Jz (G:=G) bs [(m.links.length:Int)] (by simp; omega)
 have en:nums [(m.links.length:Int)] = be8 (m.links.length:Int):=by simp [nums]
 rw [en] at m1
 have hy:(bs ++ be8 (m.links.length:Int)).length = bs.length + 8:=by rw [List.length_append,J3]
 generalize bs ++ be8 (m.links.length:Int) = y at *
 have hl1:=h.links
 have hl2:=h.link
 have hl3:=h.linksW
 generalize hls:m.links = ls at *
 obtain ⟨F,hF⟩:∃ F:Nat → Bytes,∀ i,F i = y ++ linksW (ls.take i):=⟨_,fun _=>rfl⟩
 obtain ⟨A,hA⟩:∃ A:Nat → Bool,∀ i,A i = (ls.take i).all fun l=>l.cert.ok:=⟨_,fun _=>rfl⟩
 have hF0:y = F 0:=by rw [hF]; simp [linksW]
 have hA0:A 0 = true:=by rw [hA]; simp
 have hFl:∀ j,(F j).length ≤ bs.length + 8 + 3000000:=by
  intro j
  have:=JPb ls j
  rw [hF,List.length_append]
  omega
 have hFs:∀ j (hj:j < ls.length),F j ++ linkW ls[j] = F (j + 1):=fun j hj=>by rw [hF,hF,JUQ ls j hj,List.append_assoc]
 have hAs:∀ j (hj:j < ls.length),A (j + 1) = (A j && ls[j].cert.ok):=fun j hj=>by rw [hA,hA,JQz _ ls j hj]
 have hFN:y ++ linksW ls = F ls.length:=by rw [hF,List.take_length]
 have hAN:(ls.all fun l=>l.cert.ok) = A ls.length:=by rw [hA,List.take_length]
 rw [hFN,hAN]
 clear hFN hAN hF hA
 rw [hF0] at m1
 clear hF0
 have hI1:[AV.v (.int .i64 (ls.length:Nat))] = I64 [(ls.length:Int)]:=rfl
 simp [Mail.av,wrM,hk,hls]
 refine Ja m1 ?_ ?_
 ·simp [wrM,hI1]
 simp [wrM,hI1]
 refine go_up ls.length (fun j (_:Unit)=>True) (fun j _ c=>⟨[(0,.ptr 1000 0 0),(5,.v (.bool (A j))),(21,.sl 103 (Lnks ls)),(22,.v (.int .i64 (ls.length:Nat))),(23,.v (.int .i64 (j:Nat)))],
  [(1000,.var 0 (.node [.row 2000 1 c 0 (F j).length])),(2000,.rows c 1 (B (F j)))],c + 1⟩) () _ (Weak.re0 1000 (by simp [hA0])) trivial ?_ ?_
 ·intro j _ c hj _
  have hw:IntKind.i64.wrap ((j:Int) + 1) = ((j + 1:Nat):Int):=Jf (by omega)
  have hlj:=hFl j
  have m2:=JXx (G:=G) (F j) ls[j] (hl2 _ (List.getElem_mem hj)) (by omega)
  rw [hFs j hj] at m2
  have e:=hAs j hj
  cases hc:ls[j].cert.ok
  ·rw [hc] at m2 e
   rw [Bool.and_false] at e
   simp [hj]
   refine Ja m2 ?_ ?_
   ·simp [wrM]
   simp [wrM]
   simp [hw]
   exact ⟨(),_,Weak.re0 1000 (by simp [e]),trivial⟩
  ·rw [hc] at m2 e
   rw [Bool.and_true] at e
   simp [hj]
   refine Ja m2 ?_ ?_
   ·simp [wrM]
   simp [wrM]
   simp [hw]
   exact ⟨(),_,Weak.re0 1000 (by simp [e]),trivial⟩
 ·intro _ c _
  simp
  refine Jb (.inr rfl) ?_
  simp
theorem JVC (bs:Bytes) (m:Mail) (hk:m.kind = 9) (h:m.LimL) (hb:bs.length ≤ 20000000) :
 Meets Tryz.prog G Jhh [.ptr 1000 0 0,m.av] (wrM 0 bs) true (.v (.bool true)) (wrM 1 (bs ++ piecesF.wr m.pieces)):=by
 refine Jc mix JOJ ⟨by simp [wrM],by simp,by simp [wrM]⟩ ?_
 have m1:=Jz (G:=G) bs [(m.pieces.length:Int)] (by simp; omega)
 have en:nums [(m.pieces.length:Int)] = be8 (m.pieces.length:Int):=by simp [nums]
 have hy:(bs ++ be8 (m.pieces.length:Int)).length = bs.length + 8:=by rw [List.length_append,J3]
 have hbb:bs ++ piecesF.wr m.pieces = bs ++ be8 (m.pieces.length:Int) ++ pcsB m.pieces:=by rw [JLo]; simp [pcsB]
 rw [en] at m1
 rw [hbb]
 generalize bs ++ be8 (m.pieces.length:Int) = y at *
 have hl1:=h.pieces
 have hl3:=h.pcs
 generalize hps:m.pieces = ps at *
 obtain ⟨F,hF⟩:∃ F:Nat → Bytes,∀ i,F i = y ++ pcsB (ps.take i):=⟨_,fun _=>rfl⟩
 have hF0:y = F 0:=by rw [hF]; simp [pcsB]
 have hFl:∀ j,(F j).length ≤ bs.length + 8 + 3000000:=by
  intro j
  have:=JLS ps j
  rw [hF,List.length_append]
  omega
 have hFs:∀ j (hj:j < ps.length),F j ++ ps[j].bytes = F (j + 1):=fun j hj=>by rw [hF,hF,JRN ps j hj,List.append_assoc]
 have hpl:∀ j (hj:j < ps.length),ps[j].bytes.length ≤ 3000000:=fun j hj=>by
  have h1:=JLS ps (j + 1)
  rw [JRN ps j hj,List.length_append] at h1
  omega
 have hFN:y ++ pcsB ps = F ps.length:=by rw [hF,List.take_length]
 rw [hFN]
 clear hFN hF
 rw [hF0] at m1
 clear hF0
 have hI1:[AV.v (.int .i64 (ps.length:Nat))] = I64 [(ps.length:Int)]:=rfl
 simp [Mail.av,wrM,hk,hps]
 refine Ja m1 ?_ ?_
 ·simp [wrM,hI1]
 simp [wrM,hI1]
 refine go_up ps.length (fun j (_:Unit)=>True) (fun j _ c=>⟨[(0,.ptr 1000 0 0),(5,.v (.bool true)),(43,.sl 36 (Pcs ps)),(44,.v (.int .i64 (ps.length:Nat))),(45,.v (.int .i64 (j:Nat)))],
  [(1000,.var 0 (.node [.row 2000 1 c 0 (F j).length])),(2000,.rows c 1 (B (F j)))],c + 1⟩) () _ (Weak.re0 1000 (by simp)) trivial ?_ ?_
 ·intro j _ c hj _
  have hw:IntKind.i64.wrap ((j:Int) + 1) = ((j + 1:Nat):Int):=Jf (by omega)
  have hlj:=hFl j
  have hpj:=hpl j hj
  have hfs:=hFs j hj
  generalize hpe:ps[j] = p at *
  rw [Piece.bytes_len] at hpj
  have m2:=Jz (G:=G) (F j) [p.at_,p.count,(p.path.length:Int)] (by simp; omega)
  have x1l:(F j ++ nums [p.at_,p.count,(p.path.length:Int)]).length = (F j).length + 24:=by rw [List.length_append,Jh]; simp
  have m3:=JT (G:=G) (F j ++ nums [p.at_,p.count,(p.path.length:Int)]) [p.tree] (by rw [x1l]; simp; omega)
  have x2l:(F j ++ nums [p.at_,p.count,(p.path.length:Int)] ++ flatD [p.tree]).length = (F j).length + 56:=by rw [List.length_append,x1l]; simp [flatD]
  have m4:=JT (G:=G) (F j ++ nums [p.at_,p.count,(p.path.length:Int)] ++ flatD [p.tree]) p.path (by rw [x2l]; omega)
  have x3l:(F j ++ nums [p.at_,p.count,(p.path.length:Int)] ++ flatD [p.tree] ++ flatD p.path).length = (F j).length + 56 + 32 * p.path.length:=by rw [List.length_append,x2l,Jbq]
  have m5:=JGy (G:=G) (F j ++ nums [p.at_,p.count,(p.path.length:Int)] ++ flatD [p.tree] ++ flatD p.path) [p.data] (by rw [x3l]; simp [txts]; omega) (by simp)
  have e:F j ++ nums [p.at_,p.count,(p.path.length:Int)] ++ flatD [p.tree] ++ flatD p.path ++ txts [p.data] = F (j + 1):=by
   rw [← hfs]
   simp [Piece.bytes,flatD,txts]
  rw [e] at m5
  generalize F j ++ nums [p.at_,p.count,(p.path.length:Int)] ++ flatD [p.tree] ++ flatD p.path = x3 at *
  generalize F j ++ nums [p.at_,p.count,(p.path.length:Int)] ++ flatD [p.tree] = x2 at *
  generalize F j ++ nums [p.at_,p.count,(p.path.length:Int)] = x1 at *
  have hS1:[AV.v (.string (mkS p.data))] = Strs [p.data]:=rfl
  simp [hj,hpe,Piece.av]
  refine Ja m2 ?_ ?_
  ·simp [wrM,I64_3]
  simp [wrM,I64_3]
  refine Ja m3 ?_ ?_
  ·simp [wrM,JWe,dv]
  simp [wrM,JWe,dv]
  refine Ja m4 ?_ ?_
  ·simp [wrM]
  simp [wrM]
  refine Ja m5 ?_ ?_
  ·simp [wrM,hS1]
  simp [wrM,hS1]
  simp [hw]
  exact ⟨(),_,Weak.re0 1000 (by simp),trivial⟩
 ·intro _ c _
  simp
  refine Jb (.inr rfl) ?_
  simp
structure Mail.Lim (m:Mail) : Prop where
 l:m.LimL
 plan:m.plan.blk.bytes.length ≤ 3000000
 planq:m.plan.blk.qs.length ≤ 1000
 req:m.req.bytes.length ≤ 3000000
 rep:m.rep.bytes.length ≤ 3000000
 repn:m.rep.vals.length ≤ 1000000
 blk:m.blk.bytes.length ≤ 3000000
 blkq:m.blk.qs.length ≤ 1000
 votes:m.cert.votes.length ≤ 1000
def Mail.bodyW (m:Mail) : Bytes :=
 if m.kind = 1 then (if m.plan.sig.ok = true then planF.wr m.plan else []) else if m.kind = 2 then (if m.vote.sig.ok = true then voteF.wr m.vote else []) else if m.kind = 3 then m.req.bytes else if m.kind = 4 then be8 m.height ++ m.rep.bytes
 else if m.kind = 5 then (if m.cert.ok = true then m.blk.bytes ++ m.cert.bytes else m.blk.bytes)
 else if m.kind = 6 then be8 m.height else if m.kind = 8 then be8 (m.links.length:Int) ++ linksW m.links else if m.kind = 9 then (if m.cert.ok = true then m.blk.bytes ++ m.cert.bytes ++ piecesF.wr m.pieces else m.blk.bytes) else []
theorem JWA (bs:Bytes) (m:Mail) (h:m.Lim) (hb:bs.length ≤ 1000) : Meets Tryz.prog G Jyk [.ptr 1000 0 0,m.av] (wrM 0 bs) true (.v (.bool m.ok)) (wrM 1 (bs ++ m.bodyW)) := by
 refine Jc mix JVo ⟨by simp [wrM],by simp,by simp [wrM]⟩ ?_
 by_cases k1:m.kind = 1
 ·have eo:m.ok = m.plan.sig.ok:=by simp [Mail.ok,k1]
  have eb:m.bodyW = if m.plan.sig.ok = true then planF.wr m.plan else []:=by simp [Mail.bodyW,k1]
  rw [eo,eb]
  have m0:=JXZ (G:=G) bs m.plan
  have m1:=fun hh=>JTy (G:=G) bs m.plan hh (by have:=h.plan; omega) (by have:=h.planq; omega)
  cases hk:m.plan.sig.ok
  ·rw [if_neg (by simp),List.append_nil]
   have m0:=m0 hk
   simp [wrM,Mail.av,k1]
   refine Ja m0 ?_ ?_
   ·simp [wrM]
   simp [wrM]
   refine Jb (.inr rfl) ?_
   simp
  ·rw [if_pos rfl]
   have m1:=m1 hk
   generalize bs ++ planF.wr m.plan = y at *
   simp [wrM,Mail.av,k1]
   refine Ja m1 ?_ ?_
   ·simp [wrM]
   simp [wrM]
   refine Jb (.inr rfl) ?_
   simp
 by_cases k2:m.kind = 2
 ·have eo:m.ok = m.vote.sig.ok:=by simp [Mail.ok,k2]
  have eb:m.bodyW = if m.vote.sig.ok = true then voteF.wr m.vote else []:=by simp [Mail.bodyW,k2]
  rw [eo,eb]
  have m0:=JP0 (G:=G) bs m.vote
  have m1:=fun hh=>JlW (G:=G) bs m.vote hh (by omega)
  cases hk:m.vote.sig.ok
  ·rw [if_neg (by simp),List.append_nil]
   have m0:=m0 hk
   simp [wrM,Mail.av,k1,k2]
   refine Ja m0 ?_ ?_
   ·simp [wrM]
   simp [wrM]
   refine Jb (.inr rfl) ?_
   simp
  ·rw [if_pos rfl]
   have m1:=m1 hk
   generalize bs ++ voteF.wr m.vote = y at *
   simp [wrM,Mail.av,k1,k2]
   refine Ja m1 ?_ ?_
   ·simp [wrM]
   simp [wrM]
   refine Jb (.inr rfl) ?_
   simp
 by_cases k3:m.kind = 3
 ·have eo:m.ok = true:=by simp [Mail.ok,k3]
  have eb:m.bodyW = m.req.bytes:=by simp [Mail.bodyW,k3]
  rw [eo,eb]
  have m1:=JMf (G:=G) bs m.req (by have:=h.req; omega)
  generalize bs ++ m.req.bytes = y at *
  simp [wrM,Mail.av,k1,k2,k3]
  refine Ja m1 ?_ ?_
  ·simp [wrM]
  simp [wrM]
  refine Jb (.inr rfl) ?_
  simp
 by_cases k4:m.kind = 4
 ·have eo:m.ok = true:=by simp [Mail.ok,k4]
  have eb:bs ++ m.bodyW = bs ++ be8 m.height ++ m.rep.bytes:=by simp [Mail.bodyW,k4]
  rw [eo,eb]
  have m1:=Jz (G:=G) bs [m.height] (by simp; omega)
  have en:nums [m.height] = be8 m.height:=by simp [nums]
  rw [en] at m1
  have m2:=JGi (G:=G) (bs ++ be8 m.height) m.rep (by have:=h.rep; rw [List.length_append,J3]; omega) h.repn
  generalize bs ++ be8 m.height ++ m.rep.bytes = y2 at *
  generalize bs ++ be8 m.height = y1 at *
  have hI1:[AV.v (.int .i64 m.height)] = I64 [m.height]:=rfl
  simp [wrM,Mail.av,k1,k2,k3,k4]
  refine Ja m1 ?_ ?_
  ·simp [wrM,hI1]
  simp [wrM,hI1]
  refine Ja m2 ?_ ?_
  ·simp [wrM]
  simp [wrM]
  refine Jb (.inr rfl) ?_
  simp
 by_cases k5:m.kind = 5
 ·have eo:m.ok = m.cert.ok:=by simp [Mail.ok,k5]
  have eb:m.bodyW = if m.cert.ok = true then m.blk.bytes ++ m.cert.bytes else m.blk.bytes:=by simp [Mail.bodyW,k5]
  rw [eo,eb]
  have hbl:=h.blk
  have m1:=Jho (G:=G) bs m.blk (by omega) (by have:=h.blkq; omega)
  have m0:=fun hh=>JK9 (G:=G) (bs ++ m.blk.bytes) m.cert hh h.votes
  have m2:=fun hh=>Jmo (G:=G) (bs ++ m.blk.bytes) m.cert hh h.votes (by rw [List.length_append]; omega)
  cases hk:m.cert.ok
  ·rw [if_neg (by simp)]
   have m0:=m0 hk
   clear m2
   generalize bs ++ m.blk.bytes = y at *
   simp [wrM,Mail.av,k1,k2,k3,k4,k5]
   refine Ja m1 ?_ ?_
   ·simp [wrM]
   simp [wrM]
   refine Ja m0 ?_ ?_
   ·simp [wrM]
   simp [wrM]
   refine Jb (.inr rfl) ?_
   simp
  ·rw [if_pos rfl,← List.append_assoc]
   have m2:=m2 hk
   clear m0
   generalize bs ++ m.blk.bytes ++ m.cert.bytes = y2 at *
   generalize bs ++ m.blk.bytes = y at *
   simp [wrM,Mail.av,k1,k2,k3,k4,k5]
   refine Ja m1 ?_ ?_
   ·simp [wrM]
   simp [wrM]
   refine Ja m2 ?_ ?_
   ·simp [wrM]
   simp [wrM]
   refine Jb (.inr rfl) ?_
   simp
 by_cases k6:m.kind = 6
 ·have eo:m.ok = true:=by simp [Mail.ok,k6]
  have eb:bs ++ m.bodyW = bs ++ be8 m.height:=by simp [Mail.bodyW,k6]
  rw [eo,eb]
  have m1:=Jz (G:=G) bs [m.height] (by simp; omega)
  have en:nums [m.height] = be8 m.height:=by simp [nums]
  rw [en] at m1
  generalize bs ++ be8 m.height = y1 at *
  have hI1:[AV.v (.int .i64 m.height)] = I64 [m.height]:=rfl
  simp [wrM,Mail.av,k1,k2,k3,k4,k5,k6]
  refine Ja m1 ?_ ?_
  ·simp [wrM,hI1]
  simp [wrM,hI1]
  refine Jb (.inr rfl) ?_
  simp
 by_cases k8:m.kind = 8
 ·have eo:m.ok = m.links.all (fun l=>l.cert.ok):=by simp [Mail.ok,k8]
  have eb:bs ++ m.bodyW = bs ++ be8 (m.links.length:Int) ++ linksW m.links:=by simp [Mail.bodyW,k8]
  rw [eo,eb]
  have m1:=JUf (G:=G) bs m k8 h.l (by omega)
  generalize bs ++ be8 (m.links.length:Int) ++ linksW m.links = y at *
  generalize hall:(m.links.all fun l=>l.cert.ok) = ok at *
  have hav:m.av = .node [.v (.int .i64 m.kind),m.plan.av,m.vote.av,m.req.av,m.rep.avS,.v (.int .i64 m.height),m.blk.avS,m.cert.av,.sl 103 (Lnks m.links),.sl 36 (Pcs m.pieces)]:=rfl
  simp [wrM,Mail.av,k1,k2,k3,k4,k5,k6,k8]
  refine Ja m1 ?_ ?_
  ·simp [wrM,Mail.av,k8]
  simp [wrM,Mail.av,k8]
  refine Jb (.inr rfl) ?_
  simp
 by_cases k9:m.kind = 9
 ·have eo:m.ok = m.cert.ok:=by simp [Mail.ok,k9]
  have eb:m.bodyW = if m.cert.ok = true then m.blk.bytes ++ m.cert.bytes ++ piecesF.wr m.pieces else m.blk.bytes:=by simp [Mail.bodyW,k9]
  rw [eo,eb]
  have hbl:=h.blk
  have m1:=Jho (G:=G) bs m.blk (by omega) (by have:=h.blkq; omega)
  have m0:=fun hh=>JK9 (G:=G) (bs ++ m.blk.bytes) m.cert hh h.votes
  have m2:=fun hh=>Jmo (G:=G) (bs ++ m.blk.bytes) m.cert hh h.votes (by rw [List.length_append]; omega)
  cases hk:m.cert.ok
  ·rw [if_neg (by simp)]
   have m0:=m0 hk
   clear m2
   generalize bs ++ m.blk.bytes = y at *
   simp [wrM,Mail.av,k1,k2,k3,k4,k5,k6,k8,k9]
   refine Ja m1 ?_ ?_
   ·simp [wrM]
   simp [wrM]
   refine Ja m0 ?_ ?_
   ·simp [wrM]
   simp [wrM]
   refine Jb (.inr rfl) ?_
   simp
  ·rw [if_pos rfl,← List.append_assoc,← List.append_assoc]
   have m2:=m2 hk
   clear m0
   have hcl:=m.cert.bytes_len hk
   have hv:=h.votes
   have m3:=JVC (G:=G) (bs ++ m.blk.bytes ++ m.cert.bytes) m k9 h.l (by rw [List.length_append,List.length_append]; omega)
   generalize bs ++ m.blk.bytes ++ m.cert.bytes ++ piecesF.wr m.pieces = y3 at *
   generalize bs ++ m.blk.bytes ++ m.cert.bytes = y2 at *
   generalize bs ++ m.blk.bytes = y at *
   simp [wrM,Mail.av,k1,k2,k3,k4,k5,k6,k8,k9]
   refine Ja m1 ?_ ?_
   ·simp [wrM]
   simp [wrM]
   refine Ja m2 ?_ ?_
   ·simp [wrM]
   simp [wrM]
   refine Ja m3 ?_ ?_
   ·simp [wrM,Mail.av,k9]
   simp [wrM,Mail.av,k9]
   refine Jb (.inr rfl) ?_
   simp
 have eo:m.ok = true:=by simp [Mail.ok,k1,k2,k3,k4,k5,k6,k8,k9]
 have eb:m.bodyW = []:=by simp [Mail.bodyW,k1,k2,k3,k4,k5,k6,k8,k9]
 rw [eo,eb,List.append_nil]
 simp [wrM,Mail.av,k1,k2,k3,k4,k5,k6,k8,k9]
 refine Jb (.inr rfl) ?_
 simp
theorem Mail.bodyW_ok {m:Mail} (h:m.ok = true) : m.bodyW = m.body := by
 unfold Mail.bodyW Mail.body
 unfold Mail.ok at h
 by_cases k1:m.kind = 1
 ·simp only [k1,if_true] at h ⊢; rw [if_pos h]
 simp only [k1,if_false] at h ⊢
 by_cases k2:m.kind = 2
 ·simp only [k2,if_true] at h ⊢; rw [if_pos h]
 simp only [k2,if_false] at h ⊢
 by_cases k5:m.kind = 5
 ·simp only [k5,if_true] at h ⊢
  rw [if_pos h]
 simp only [k5,if_false] at h ⊢
 by_cases k8:m.kind = 8
 ·simp only [k8,if_true] at h ⊢
  rw [JRR,JZp m.links h]
 simp only [k8,if_false] at h ⊢
 by_cases k9:m.kind = 9
 ·simp only [k9,if_true] at h ⊢
  rw [if_pos h]
 simp only [k9,if_false] at h ⊢
theorem Mail.body_len {m:Mail} (h:m.Lim) (ho:m.ok = true) : m.body.length ≤ 20000000 := by
 rw [← Mail.bodyW_ok ho]
 have:=h.plan
 have:=h.req
 have:=h.rep
 have:=h.blk
 have:=h.l.linksW
 have:=h.l.pcs
 have hv:=h.votes
 unfold Mail.bodyW
 split
 ·split
  ·rename_i hk
   rw [JQo,List.length_append]
   have h2:m.plan.head.length = 40 + m.plan.blk.bytes.length:=by simp [Plan.head,Jh]
   simp only [Sig.ok,decide_eq_true_eq] at hk
   rw [Sig.bytes_len]
   omega
  ·simp
 split
 ·split
  ·rename_i hk
   have:=JSp m.vote hk
   omega
  ·simp
 split
 ·omega
 split
 ·rw [List.length_append,J3]; omega
 split
 ·split
  ·rename_i hk
   have:=m.cert.bytes_len hk
   rw [List.length_append]; omega
  ·omega
 split
 ·rw [J3]; omega
 split
 ·rw [List.length_append,J3]; omega
 split
 ·split
  ·rename_i hk
   have:=m.cert.bytes_len hk
   have e:(m.pieces.flatMap Piece.bytes).length = (pcsB m.pieces).length:=rfl
   rw [JLo,List.length_append,List.length_append,List.length_append,J3,e]; omega
  ·omega
 ·simp
theorem JTJ (m:Mail) (h:m.Lim) : Meets Tryz.prog G Jm4 [m.av] [] false (.tup [.sl 1 (B (encB m)),.v (.int .i64 (encE m))]) [] := by
 refine Jc mix JQt ⟨by simp,by simp,by simp⟩ ?_
 have m1:=Jz (G:=G) [] [m.kind] (by simp)
 have en:nums [m.kind] = be8 m.kind:=by simp [nums]
 rw [List.nil_append,en] at m1
 have m2:=JWA (G:=G) (be8 m.kind) m h (by simp)
 have hI1:[AV.v (.int .i64 m.kind)] = I64 [m.kind]:=rfl
 cases ho:m.ok
 ·have e1:encE m = 1:=by simp [encE,ho]
  have e2:encB m = []:=by simp [encB,e1]
  rw [ho] at m2
  rw [e1,e2]
  generalize be8 m.kind ++ m.bodyW = y at *
  simp [Mail.av]
  refine Ja m1 ?_ ?_
  ·simp [wrM,hI1]
  simp [wrM,hI1]
  refine Ja m2 ?_ ?_
  ·simp [wrM,Mail.av]
  simp [wrM,Mail.av]
  refine Jb (.inr rfl) ?_
  simp
 ·rw [ho,Mail.bodyW_ok ho] at m2
  have hy:be8 m.kind ++ m.body = m.bytes:=rfl
  rw [hy] at m2
  have hyl:m.bytes.length ≤ 20000008:=by
   have:=Mail.body_len h ho
   rw [← hy,List.length_append,J3]
   omega
  have m3:=JYq (G:=G) m.bytes (by omega)
  by_cases hl:262144 < m.bytes.length
  ·have hli:(262144:Int) < (m.bytes.length:Nat):=by omega
   have e1:encE m = 3:=by simp [encE,ho,hl]
   have e2:encB m = []:=by simp [encB,e1]
   rw [e1,e2]
   generalize m.bytes = y at *
   simp [Mail.av]
   refine Ja m1 ?_ ?_
   ·simp [wrM,hI1]
   simp [wrM,hI1]
   refine Ja m2 ?_ ?_
   ·simp [wrM,Mail.av]
   simp [wrM,Mail.av]
   refine Ja m3 ?_ ?_
   ·simp [wrM]
   simp [wrM,hl,hli]
   refine Jb (.inr rfl) ?_
   simp
  have hli:¬ (262144:Int) < (m.bytes.length:Nat):=by omega
  have m4:=Jhl (G:=G) m.bytes (by omega)
  have e1:encE m = if decE m.bytes = 0 then 0 else 1:=by unfold encE; rw [if_neg (by simp [ho]),if_neg hl]
  have e2:encB m = if encE m = 0 then m.bytes else []:=rfl
  rw [e2,e1]
  clear e1 e2
  generalize m.bytes = y at *
  generalize decM y = z at *
  generalize decE y = e at *
  simp [Mail.av]
  refine Ja m1 ?_ ?_
  ·simp [wrM,hI1]
  simp [wrM,hI1]
  refine Ja m2 ?_ ?_
  ·simp [wrM,Mail.av]
  simp [wrM,Mail.av]
  refine Ja m3 ?_ ?_
  ·simp [wrM]
  simp [wrM,hl,hli]
  refine Ja m4 ?_ ?_
  ·simp
  simp
  by_cases he:e = 0
  ·simp [he]
   refine Jb (.inr rfl) ?_
   simp [he]
  ·simp [he]
   refine Jb (.inr rfl) ?_
   simp [he]
end
section
open Go
set_option maxHeartbeats 8000000
variable {G:Nat → Option AV}
attribute [local irreducible] sha
attribute [local irreducible] Rd.sig Rd.sig' Rd.blk Rd.blk' Rd.inn Rd.inn' Rd.dg Rd.dg' Rd.rep Rd.rep' Rd.text Rd.text' Rd.req Rd.req' repR
theorem JQK (b:Bytes) (hb:b.length ≤ 1000000) : Meets Tryz.prog G JpM [.v (.string (mkS b))] [] false (.tup [(decM b).av,.v (.int .i64 (decE b))]) [] := by
 refine Jc mix JSr ⟨by simp,by simp,by simp⟩ ?_
 by_cases hl:262144 < b.length
 ·have hli:(262144:Int) < (b.length:Nat):=by omega
  have e1:decM b = Mail.zero:=by unfold decM; rw [if_pos hl]
  have e2:decE b = 3:=by unfold decE; rw [if_pos hl]
  rw [e1,e2]
  simp [hl,hli]
  refine Jb (.inr rfl) ?_
  simp [Mail.av,Mail.zero,Plan.av,Plan.zero,Vote.av,Vote.zero,Req.av,Req.zero,Chg.av,Chg.zero,Rep.avS,Rep.zero,Blk.avS,Blk.zero,Cert.av,Cert.zero,Sig.avS,Sig.zero,dv]
 have hli:¬ (262144:Int) < (b.length:Nat):=by omega
 obtain ⟨e1,e2⟩:=J23 hl
 rw [e1,e2]
 clear e1 e2
 have m1:=Jo (G:=G) (Rd.of b) 1 9
 have hofs:(Rd.of b).s = b ∧ (Rd.of b).pre = [] ∧ (Rd.of b).bad = false:=⟨rfl,rfl,rfl⟩
 have hflt:((Rd.of b).inn' 1 9).flt:=Rd.flt_inn _ _ _
 have htb:List.take b.length b = b:=List.take_of_length_le (by omega)
 generalize (Rd.of b).inn 1 9 = k at *
 generalize (Rd.of b).inn' 1 9 = r1 at *
 simp [hl,hli]
 refine Ja m1 ?_ ?_
 ·simp [rfM,hofs]
 simp [rfM,hofs]
 by_cases k1:k = 1
 ·have m2:=JQW (G:=G) r1
  have eb:bodyRd' k r1 = planF.rd' r1:=by simp [bodyRd',k1]
  have ev:bodyRd k r1 = { Mail.zero with kind:=k,plan:=planF.rd r1 }:=by simp [bodyRd,k1]
  rw [eb,ev]
  clear eb ev
  generalize planF.rd r1 = p at *
  generalize planF.rd' r1 = r2 at *
  have m3:=Jba (G:=G) r2
  simp [rfM,k1]
  refine Ja m2 ?_ ?_
  ·simp [rfM]
  simp [rfM]
  refine Ja m3 ?_ ?_
  ·simp [rfM]
  simp [rfM]
  cases hd:r2.done
  ·simp [rfM]
   refine Jb (.inr rfl) ?_
   simp [Mail.av,Mail.zero,Plan.av,Plan.zero,Vote.av,Vote.zero,Req.av,Req.zero,Chg.av,Chg.zero,Rep.avS,Rep.zero,Blk.avS,Blk.zero,Cert.av,Cert.zero,Sig.avS,Sig.zero,dv]
  ·simp [rfM]
   refine Jb (.inr rfl) ?_
   simp [Mail.av,Mail.zero,Plan.av,Plan.zero,Vote.av,Vote.zero,Req.av,Req.zero,Chg.av,Chg.zero,Rep.avS,Rep.zero,Blk.avS,Blk.zero,Cert.av,Cert.zero,Sig.avS,Sig.zero,dv]
 by_cases k2:k = 2
 ·have m2:=JL9 (G:=G) r1
  have eb:bodyRd' k r1 = voteF.rd' r1:=by simp [bodyRd',k2]
  have ev:bodyRd k r1 = { Mail.zero with kind:=k,vote:=voteF.rd r1 }:=by simp [bodyRd,k2]
  rw [eb,ev]
  clear eb ev
  generalize voteF.rd r1 = p at *
  generalize voteF.rd' r1 = r2 at *
  have m3:=Jba (G:=G) r2
  simp [rfM,k1,k2]
  refine Ja m2 ?_ ?_
  ·simp [rfM]
  simp [rfM]
  refine Ja m3 ?_ ?_
  ·simp [rfM]
  simp [rfM]
  cases hd:r2.done
  ·simp [rfM]
   refine Jb (.inr rfl) ?_
   simp [Mail.av,Mail.zero,Plan.av,Plan.zero,Vote.av,Vote.zero,Req.av,Req.zero,Chg.av,Chg.zero,Rep.avS,Rep.zero,Blk.avS,Blk.zero,Cert.av,Cert.zero,Sig.avS,Sig.zero,dv]
  ·simp [rfM]
   refine Jb (.inr rfl) ?_
   simp [Mail.av,Mail.zero,Plan.av,Plan.zero,Vote.av,Vote.zero,Req.av,Req.zero,Chg.av,Chg.zero,Rep.avS,Rep.zero,Blk.avS,Blk.zero,Cert.av,Cert.zero,Sig.avS,Sig.zero,dv]
 by_cases k3:k = 3
 ·have m2:=JLx (G:=G) r1
  have eb:bodyRd' k r1 = r1.req':=by simp [bodyRd',k3]
  have ev:bodyRd k r1 = { Mail.zero with kind:=k,req:=r1.req }:=by simp [bodyRd,k3]
  rw [eb,ev]
  clear eb ev
  generalize r1.req = p at *
  generalize r1.req' = r2 at *
  have m3:=Jba (G:=G) r2
  simp [rfM,k1,k2,k3]
  refine Ja m2 ?_ ?_
  ·simp [rfM]
  simp [rfM]
  refine Ja m3 ?_ ?_
  ·simp [rfM]
  simp [rfM]
  cases hd:r2.done
  ·simp [rfM]
   refine Jb (.inr rfl) ?_
   simp [Mail.av,Mail.zero,Plan.av,Plan.zero,Vote.av,Vote.zero,Req.av,Req.zero,Chg.av,Chg.zero,Rep.avS,Rep.zero,Blk.avS,Blk.zero,Cert.av,Cert.zero,Sig.avS,Sig.zero,dv]
  ·simp [rfM]
   refine Jb (.inr rfl) ?_
   simp [Mail.av,Mail.zero,Plan.av,Plan.zero,Vote.av,Vote.zero,Req.av,Req.zero,Chg.av,Chg.zero,Rep.avS,Rep.zero,Blk.avS,Blk.zero,Cert.av,Cert.zero,Sig.avS,Sig.zero,dv]
 by_cases k4:k = 4
 ·have m2:=Jo (G:=G) r1 0 1024
  have m4:=JWW (G:=G) (r1.inn' 0 1024)
  have eb:bodyRd' k r1 = (r1.inn' 0 1024).rep':=by simp [bodyRd',k4]
  have ev:bodyRd k r1 = { Mail.zero with kind:=k,height:=r1.inn 0 1024,rep:=(r1.inn' 0 1024).rep }:=by simp [bodyRd,k4]
  rw [eb,ev]
  clear eb ev
  generalize r1.inn 0 1024 = h at *
  generalize r1.inn' 0 1024 = r2 at *
  generalize r2.rep = p at *
  generalize r2.rep' = r3 at *
  have m3:=Jba (G:=G) r3
  simp [rfM,k1,k2,k3,k4]
  refine Ja m2 ?_ ?_
  ·simp [rfM]
  simp [rfM]
  refine Ja m4 ?_ ?_
  ·simp [rfM]
  simp [rfM]
  refine Ja m3 ?_ ?_
  ·simp [rfM]
  simp [rfM]
  cases hd:r3.done
  ·simp [rfM]
   refine Jb (.inr rfl) ?_
   simp [Mail.av,Mail.zero,Plan.av,Plan.zero,Vote.av,Vote.zero,Req.av,Req.zero,Chg.av,Chg.zero,Rep.avS,Rep.zero,Blk.avS,Blk.zero,Cert.av,Cert.zero,Sig.avS,Sig.zero,dv]
  ·simp [rfM]
   refine Jb (.inr rfl) ?_
   simp [Mail.av,Mail.zero,Plan.av,Plan.zero,Vote.av,Vote.zero,Req.av,Req.zero,Chg.av,Chg.zero,Rep.avS,Rep.zero,Blk.avS,Blk.zero,Cert.av,Cert.zero,Sig.avS,Sig.zero,dv]
 by_cases k5:k = 5
 ·have m2:=JAt (G:=G) r1
  have m4:=JxA (G:=G) r1.blk'
  have eb:bodyRd' k r1 = certF.rd' r1.blk':=by simp [bodyRd',k5]
  have ev:bodyRd k r1 = { Mail.zero with kind:=k,blk:=r1.blk,cert:=certF.rd r1.blk' }:=by simp [bodyRd,k5]
  rw [eb,ev]
  clear eb ev
  generalize r1.blk = h at *
  generalize r1.blk' = r2 at *
  generalize certF.rd r2 = p at *
  generalize certF.rd' r2 = r3 at *
  have m3:=Jba (G:=G) r3
  simp [rfM,k1,k2,k3,k4,k5]
  refine Ja m2 ?_ ?_
  ·simp [rfM]
  simp [rfM]
  refine Ja m4 ?_ ?_
  ·simp [rfM]
  simp [rfM]
  refine Ja m3 ?_ ?_
  ·simp [rfM]
  simp [rfM]
  cases hd:r3.done
  ·simp [rfM]
   refine Jb (.inr rfl) ?_
   simp [Mail.av,Mail.zero,Plan.av,Plan.zero,Vote.av,Vote.zero,Req.av,Req.zero,Chg.av,Chg.zero,Rep.avS,Rep.zero,Blk.avS,Blk.zero,Cert.av,Cert.zero,Sig.avS,Sig.zero,dv]
  ·simp [rfM]
   refine Jb (.inr rfl) ?_
   simp [Mail.av,Mail.zero,Plan.av,Plan.zero,Vote.av,Vote.zero,Req.av,Req.zero,Chg.av,Chg.zero,Rep.avS,Rep.zero,Blk.avS,Blk.zero,Cert.av,Cert.zero,Sig.avS,Sig.zero,dv]
 by_cases k6:k = 6
 ·have m2:=Jo (G:=G) r1 1 1025
  have eb:bodyRd' k r1 = r1.inn' 1 1025:=by simp [bodyRd',k6]
  have ev:bodyRd k r1 = { Mail.zero with kind:=k,height:=r1.inn 1 1025 }:=by simp [bodyRd,k6]
  rw [eb,ev]
  clear eb ev
  generalize r1.inn 1 1025 = p at *
  generalize r1.inn' 1 1025 = r2 at *
  have m3:=Jba (G:=G) r2
  simp [rfM,k1,k2,k3,k4,k5,k6]
  refine Ja m2 ?_ ?_
  ·simp [rfM]
  simp [rfM]
  refine Ja m3 ?_ ?_
  ·simp [rfM]
  simp [rfM]
  cases hd:r2.done
  ·simp [rfM]
   refine Jb (.inr rfl) ?_
   simp [Mail.av,Mail.zero,Plan.av,Plan.zero,Vote.av,Vote.zero,Req.av,Req.zero,Chg.av,Chg.zero,Rep.avS,Rep.zero,Blk.avS,Blk.zero,Cert.av,Cert.zero,Sig.avS,Sig.zero,dv]
  ·simp [rfM]
   refine Jb (.inr rfl) ?_
   simp [Mail.av,Mail.zero,Plan.av,Plan.zero,Vote.av,Vote.zero,Req.av,Req.zero,Chg.av,Chg.zero,Rep.avS,Rep.zero,Blk.avS,Blk.zero,Cert.av,Cert.zero,Sig.avS,Sig.zero,dv]
 by_cases k8:k = 8
 ·have m2:=Jo (G:=G) r1 0 1024
  have eb:bodyRd' k r1 = linksF.rd' r1:=by simp [bodyRd',k8]
  have ev:bodyRd k r1 = { Mail.zero with kind:=k,links:=linksF.rd r1 }:=by simp [bodyRd,k8]
  rw [eb,ev,JOA,JPG]
  clear eb ev
  have hN:(((r1.inn 0 1024).toNat:Nat):Int) = r1.inn 0 1024 ∧ (r1.inn 0 1024).toNat ≤ 1024:=by
   have:=count1024 r1
   omega
  obtain ⟨hN,hN2⟩:=hN
  generalize (r1.inn 0 1024).toNat = N at *
  rw [← hN] at m2
  clear hN
  have hflt2:=r1.flt_inn 0 1024
  generalize r1.inn' 0 1024 = r2 at *
  obtain ⟨L,hL⟩:∃ L:Nat → List Lnk,∀ i,L i = (repR (fun _=>linkF) r2 i).1:=⟨_,fun _=>rfl⟩
  obtain ⟨R,hR⟩:∃ R:Nat → Rd,∀ i,R i = (repR (fun _=>linkF) r2 i).2:=⟨_,fun _=>rfl⟩
  have hL0:L 0 = []:=by rw [hL]; simp only [repR]
  have hR0:r2 = R 0:=by rw [hR]; simp only [repR]
  have hLl:∀ i,(L i).length = i:=fun i=>by rw [hL]; exact JQ _ r2 i
  have hLs:∀ i,L (i + 1) = L i ++ [linkF.rd (R i)]:=fun i=>by rw [hL,hL,hR]; simp only [repR]
  have hRs:∀ i,R (i + 1) = linkF.rd' (R i):=fun i=>by rw [hR,hR]; simp only [repR]
  have hst:∀ j,j ≤ N → (R j).bad = true → R j = Rd.fault ∧ R N = Rd.fault:=by
   intro j hj hb
   rw [hR] at hb
   exact ⟨by rw [hR]; exact JjN (fun _=>JyY) r2 hflt2 j hb,by rw [hR]; exact JoJ (fun _=>JyY) r2 hflt2 j hb N hj⟩
  rw [← hL,← hR]
  clear hL hR
  simp [rfM,k1,k2,k3,k4,k5,k6,k8]
  refine Ja m2 ?_ ?_
  ·simp [rfM]
  simp [rfM]
  rw [hR0]
  refine go_up N (fun j (_:Unit)=>True) (fun j _ c=>⟨[(2,.ptr 2 c 0),(4,.ptr 16 c 0),(5,.ptr 5 c 0),(6,.v (.int .i64 (N:Nat))),(7,.v (.int .i64 (j:Nat)))],
   [(2,.var c Mail.zero.av),(5,.var c (.node [.v (.int .i64 8),Plan.zero.av,Vote.zero.av,Req.zero.av,Rep.zero.avS,.v (.int .i64 0),Blk.zero.avS,Cert.zero.av,.row 77 103 c 0 j,.v (.slice none 0 0)])),(77,.rows c 103 (Lnks (L j))),
    (16,.var c (.node [.v (.string (mkS (R j).s)),.v (.bool (R j).bad)]))],c + 1⟩) () _ (Weak.re (by simp [hL0,Mail.av,Mail.zero,Plan.av,Plan.zero,Vote.av,Vote.zero,Req.av,Req.zero,Chg.av,Chg.zero,Rep.avS,Rep.zero,Blk.avS,Blk.zero,Cert.av,Cert.zero,Sig.avS,Sig.zero,dv])) trivial ?_ ?_
  ·intro j _ c hj _
   have hw:IntKind.i64.wrap ((j:Int) + 1) = ((j + 1:Nat):Int):=Jf (by omega)
   have f1:fitsB (j + 1) 200:=fits (by omega) (by omega)
   have e1:=hLs j
   have e2:=hRs j
   have hlj:=hLl j
   have hs:=hst j (by omega)
   have m8:=JJ (G:=G) (R j)
   cases hb:(R j).bad
   ·generalize R j = q at *
    have m3:=JSO (G:=G) q
    generalize linkF.rd q = v at *
    generalize linkF.rd' q = q1 at *
    generalize L j = x at *
    have hS:=JTs x v
    rw [hb] at m8
    simp [hj]
    refine Ja m8 ?_ ?_
    ·simp [rfM,hb]
    simp [rfM,hb]
    refine Ja m3 ?_ ?_
    ·simp [rfM,hb]
    simp [rfM,f1,hlj,hS]
    simp [hw]
    exact ⟨(),_,Weak.re (by simp [e1,e2]),trivial⟩
   ·obtain ⟨q1,q2⟩:=hs hb
    have m9:=Jba (G:=G) Rd.fault
    have hdf:Rd.fault.done = false:=rfl
    rw [hdf] at m9
    rw [q2,hdf]
    rw [q1] at m8
    simp [hj,q1,Rd.fault]
    refine Ja m8 ?_ ?_
    ·simp [rfM,Rd.fault]
    simp [rfM,Rd.fault]
    refine Ja m9 ?_ ?_
    ·simp [rfM,Rd.fault]
    simp [rfM,Rd.fault]
    refine Jb (.inr rfl) ?_
    simp [Mail.av,Mail.zero,Plan.av,Plan.zero,Vote.av,Vote.zero,Req.av,Req.zero,Chg.av,Chg.zero,Rep.avS,Rep.zero,Blk.avS,Blk.zero,Cert.av,Cert.zero,Sig.avS,Sig.zero,dv]
  ·intro _ c _
   have hlN:=hLl N
   generalize R N = q at *
   generalize L N = x at *
   have m3:=Jba (G:=G) q
   have htx:List.take N x = x:=List.take_of_length_le (by omega)
   simp
   refine Ja m3 ?_ ?_
   ·simp [rfM]
   simp [rfM]
   cases hd:q.done
   ·simp [rfM]
    refine Jb (.inr rfl) ?_
    simp [Mail.av,Mail.zero,Plan.av,Plan.zero,Vote.av,Vote.zero,Req.av,Req.zero,Chg.av,Chg.zero,Rep.avS,Rep.zero,Blk.avS,Blk.zero,Cert.av,Cert.zero,Sig.avS,Sig.zero,dv]
   ·simp [rfM]
    refine Jb (.inr rfl) ?_
    simp [Mail.av,Mail.zero,Plan.av,Plan.zero,Vote.av,Vote.zero,Req.av,Req.zero,Chg.av,Chg.zero,Rep.avS,Rep.zero,Blk.avS,Blk.zero,Cert.av,Cert.zero,Sig.avS,Sig.zero,dv,hlN,htx]
 by_cases k9:k = 9
 ·have m2:=JAt (G:=G) r1
  have m4:=JxA (G:=G) r1.blk'
  have eb:bodyRd' k r1 = piecesF.rd' (certF.rd' r1.blk'):=by simp [bodyRd',k9]
  have ev:bodyRd k r1 = { Mail.zero with kind:=k,blk:=r1.blk,cert:=certF.rd r1.blk',pieces:=piecesF.rd (certF.rd' r1.blk') }:=by simp [bodyRd,k9]
  rw [eb,ev,JKS,JOh]
  clear eb ev
  generalize r1.blk = ab at *
  generalize r1.blk' = rb at *
  generalize certF.rd rb = ac at *
  generalize certF.rd' rb = rc at *
  have m5:=Jo (G:=G) rc 0 1024
  have hN:(((rc.inn 0 1024).toNat:Nat):Int) = rc.inn 0 1024 ∧ (rc.inn 0 1024).toNat ≤ 1024:=by
   have:=count1024 rc
   omega
  obtain ⟨hN,hN2⟩:=hN
  generalize (rc.inn 0 1024).toNat = N at *
  rw [← hN] at m5
  clear hN
  have hflt2:=rc.flt_inn 0 1024
  generalize rc.inn' 0 1024 = r2 at *
  obtain ⟨L,hL⟩:∃ L:Nat → List Piece,∀ i,L i = (repR (fun _=>pieceF) r2 i).1:=⟨_,fun _=>rfl⟩
  obtain ⟨R,hR⟩:∃ R:Nat → Rd,∀ i,R i = (repR (fun _=>pieceF) r2 i).2:=⟨_,fun _=>rfl⟩
  have hL0:L 0 = []:=by rw [hL]; simp only [repR]
  have hR0:r2 = R 0:=by rw [hR]; simp only [repR]
  have hLl:∀ i,(L i).length = i:=fun i=>by rw [hL]; exact JQ _ r2 i
  have hLs:∀ i,L (i + 1) = L i ++ [pieceF.rd (R i)]:=fun i=>by rw [hL,hL,hR]; simp only [repR]
  have hRs:∀ i,R (i + 1) = pieceF.rd' (R i):=fun i=>by rw [hR,hR]; simp only [repR]
  have hst:∀ j,j ≤ N → (R j).bad = true → R j = Rd.fault ∧ R N = Rd.fault:=by
   intro j hj hb
   rw [hR] at hb
   exact ⟨by rw [hR]; exact JjN (fun _=>Jpt) r2 hflt2 j hb,by rw [hR]; exact JoJ (fun _=>Jpt) r2 hflt2 j hb N hj⟩
  rw [← hL,← hR]
  clear hL hR
  simp [rfM,k1,k2,k3,k4,k5,k6,k8,k9]
  refine Ja m2 ?_ ?_
  ·simp [rfM]
  simp [rfM]
  refine Ja m4 ?_ ?_
  ·simp [rfM]
  simp [rfM]
  refine Ja m5 ?_ ?_
  ·simp [rfM]
  simp [rfM]
  rw [hR0]
  refine go_up N (fun j (_:Unit)=>True) (fun j _ c=>⟨[(2,.ptr 2 c 0),(4,.ptr 16 c 0),(5,.ptr 5 c 0),(8,.v (.int .i64 (N:Nat))),(9,.v (.int .i64 (j:Nat)))],
   [(2,.var c Mail.zero.av),(5,.var c (.node [.v (.int .i64 9),Plan.zero.av,Vote.zero.av,Req.zero.av,Rep.zero.avS,.v (.int .i64 0),ab.avS,ac.av,.v (.slice none 0 0),.row 98 36 c 0 j])),(98,.rows c 36 (Pcs (L j))),
    (16,.var c (.node [.v (.string (mkS (R j).s)),.v (.bool (R j).bad)]))],c + 1⟩) () _ (Weak.re (by simp [hL0,Mail.av,Mail.zero,Plan.av,Plan.zero,Vote.av,Vote.zero,Req.av,Req.zero,Chg.av,Chg.zero,Rep.avS,Rep.zero,Blk.avS,Blk.zero,Cert.av,Cert.zero,Sig.avS,Sig.zero,dv])) trivial ?_ ?_
  ·intro j _ c hj _
   have hw:IntKind.i64.wrap ((j:Int) + 1) = ((j + 1:Nat):Int):=Jf (by omega)
   have f1:fitsB (j + 1) 88:=fits (by omega) (by omega)
   have e1:=hLs j
   have e2:=hRs j
   have hlj:=hLl j
   have hs:=hst j (by omega)
   have m8:=JJ (G:=G) (R j)
   cases hb:(R j).bad
   ·generalize R j = q at *
    have m3:=JTR (G:=G) q
    generalize pieceF.rd q = v at *
    generalize pieceF.rd' q = q1 at *
    generalize L j = x at *
    have hS:=JVJ x v
    rw [hb] at m8
    simp [hj]
    refine Ja m8 ?_ ?_
    ·simp [rfM,hb]
    simp [rfM,hb]
    refine Ja m3 ?_ ?_
    ·simp [rfM,hb]
    simp [rfM,f1,hlj,hS]
    simp [hw]
    exact ⟨(),_,Weak.re (by simp [e1,e2]),trivial⟩
   ·obtain ⟨q1,q2⟩:=hs hb
    have m9:=Jba (G:=G) Rd.fault
    have hdf:Rd.fault.done = false:=rfl
    rw [hdf] at m9
    rw [q2,hdf]
    rw [q1] at m8
    simp [hj,q1,Rd.fault]
    refine Ja m8 ?_ ?_
    ·simp [rfM,Rd.fault]
    simp [rfM,Rd.fault]
    refine Ja m9 ?_ ?_
    ·simp [rfM,Rd.fault]
    simp [rfM,Rd.fault]
    refine Jb (.inr rfl) ?_
    simp [Mail.av,Mail.zero,Plan.av,Plan.zero,Vote.av,Vote.zero,Req.av,Req.zero,Chg.av,Chg.zero,Rep.avS,Rep.zero,Blk.avS,Blk.zero,Cert.av,Cert.zero,Sig.avS,Sig.zero,dv]
  ·intro _ c _
   have hlN:=hLl N
   generalize R N = q at *
   generalize L N = x at *
   have m3:=Jba (G:=G) q
   have htx:List.take N x = x:=List.take_of_length_le (by omega)
   simp
   refine Ja m3 ?_ ?_
   ·simp [rfM]
   simp [rfM]
   cases hd:q.done
   ·simp [rfM]
    refine Jb (.inr rfl) ?_
    simp [Mail.av,Mail.zero,Plan.av,Plan.zero,Vote.av,Vote.zero,Req.av,Req.zero,Chg.av,Chg.zero,Rep.avS,Rep.zero,Blk.avS,Blk.zero,Cert.av,Cert.zero,Sig.avS,Sig.zero,dv]
   ·simp [rfM]
    refine Jb (.inr rfl) ?_
    simp [Mail.av,Mail.zero,Plan.av,Plan.zero,Vote.av,Vote.zero,Req.av,Req.zero,Chg.av,Chg.zero,Rep.avS,Rep.zero,Blk.avS,Blk.zero,Cert.av,Cert.zero,Sig.avS,Sig.zero,dv,hlN,htx]
 have m3:=Jba (G:=G) r1
 have eb:bodyRd' k r1 = r1:=by simp [bodyRd',k1,k2,k3,k4,k5,k6,k8,k9]
 have ev:bodyRd k r1 = { Mail.zero with kind:=k }:=by simp [bodyRd,k1,k2,k3,k4,k5,k6,k8,k9]
 rw [eb,ev]
 clear eb ev
 simp [rfM,k1,k2,k3,k4,k5,k6,k8,k9]
 refine Ja m3 ?_ ?_
 ·simp [rfM]
 simp [rfM]
 cases hd:r1.done
 ·simp [rfM]
  refine Jb (.inr rfl) ?_
  simp [Mail.av,Mail.zero,Plan.av,Plan.zero,Vote.av,Vote.zero,Req.av,Req.zero,Chg.av,Chg.zero,Rep.avS,Rep.zero,Blk.avS,Blk.zero,Cert.av,Cert.zero,Sig.avS,Sig.zero,dv]
 ·simp [rfM]
  refine Jb (.inr rfl) ?_
  simp [Mail.av,Mail.zero,Plan.av,Plan.zero,Vote.av,Vote.zero,Req.av,Req.zero,Chg.av,Chg.zero,Rep.avS,Rep.zero,Blk.avS,Blk.zero,Cert.av,Cert.zero,Sig.avS,Sig.zero,dv]
end
end Go.Proofs.YtlajjoekbcjfnaaGreatDoor.WL
