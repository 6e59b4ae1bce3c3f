import Derived.Test.YtlajjoekbcjfnaaGreatDoorWm5
namespace Go.Proofs.YtlajjoekbcjfnaaGreatDoor.WL
set_option linter.all false
section
open Go
attribute [local irreducible] sha
theorem Fmt.Law.same {α:Type} {F G:Fmt α} (h:F.Law) (h1:∀ r,G.rd r = F.rd r) (h2:∀ r,G.rd' r = F.rd' r) (h3:∀ a,G.fits a → G.wr a = F.wr a) (h4:∀ a,G.good a ↔ F.good a) (h5:∀ a,G.fits a → F.fits a) (h6:∀ a,G.good a → G.fits a) : G.Law where
 fault:=by rw [h2]; exact h.fault
 flt r hr:=by rw [h2]; exact h.flt r hr
 back pre y a hg:=by rw [h3 a (h6 a hg),h1,h2]; exact h.back pre y a ((h4 a).1 hg)
 one r hb:=by
  rw [h2] at hb ⊢
  have:=h.one r hb
  rw [h1,h4,h3 _ (h6 _ ((h4 _).2 this.2.2.2))]
  exact this
 fit a hg:=h6 a hg
 inj a b x y ha hb hx:=by rw [h3 a ha,h3 b hb] at hx; exact h.inj a b x y (h5 a ha) (h5 b hb) hx
theorem JdD {α:Type} (F:Fmt α) : ∀ (l p:List α),repW (fun _=>F) p l = l.flatMap F.wr
 | [],_=>rfl
 | a :: l,p=>by simp [repW,JdD F l]
theorem Jdf {α:Type} (F:Fmt α) : ∀ (l p:List α),repG (fun _=>F) p l ↔ ∀ a ∈ l,F.good a
 | [],_=>by simp [repG]
 | a :: l,p=>by simp [repG,Jdf F l]
theorem JAp {α:Type} (F:Fmt α) : ∀ (l p:List α),repT (fun _=>F) p l ↔ ∀ a ∈ l,F.fits a
 | [],_=>by simp [repT]
 | a :: l,p=>by simp [repT,JAp F l]
theorem JNO (r:Rd) : ∀ n,repR (fun _=>dgF) r n = (r.ds n,r.ds' n)
 | 0=>rfl
 | n + 1=>by simp only [repR,JNO r n]; rfl
theorem JVi (F:Fmt Req) (h1:∀ r,F.rd r = r.req) (h2:∀ r,F.rd' r = r.req') (r:Rd) : ∀ n,repR (fun _=>F) r n = (r.rq n,r.rq' n)
 | 0=>rfl
 | n + 1=>by simp only [repR,JVi F h1 h2 r n,h1,h2]; rfl
theorem JUL (r:Rd) : ∀ n,repR (fun _=>textF 1024) r n = (r.tx n,r.tx' n)
 | 0=>rfl
 | n + 1=>by simp only [repR,JUL r n]; rfl
def Sig.Fits (s:Sig) : Prop := W64 s.leaf ∧ s.op.length = 32 ∧ s.sh.length = 32 ∧ s.path.length ≤ 6
def sigR : Fmt (Int × (Int × (List Dg × (List Dg × List Dg)))) :=
 seqF numF fun _=>seqF (inF 0 6) fun n=>seqF (repF (fun _=>dgF) 32) fun _=>seqF (repF (fun _=>dgF) 32) fun _=>repF (fun _=>dgF) n.toNat
theorem JV5 (n:Nat) : (repF (fun _=>dgF) n).Law := JWq (fun _=>Jxe) n
theorem J0J : sigR.Law := Jm JIw fun _ => Jm (JA 0 6) fun n => Jm (JV5 32) fun _ => Jm (JV5 32) fun _ => JV5 n.toNat
def sigM : Fmt Sig := zeroF (mapF sigR (fun x=>⟨x.1,x.2.2.1,x.2.2.2.1,x.2.2.2.2⟩) (fun s=>(s.leaf,(s.path.length:Int),s.op,s.sh,s.path))) Sig.zero
theorem J1x : sigM.Law := Jeu _ (JbN J0J (fun _=>rfl) (by
 rintro ⟨l,n,o,s,p⟩ ⟨_,⟨_,h0,_⟩,_,_,h,_⟩
 have h1:p.length = n.toNat:=h
 have h2:(0:Int) ≤ n:=h0
 have:(p.length:Int) = n:=by omega
 show (l,(p.length:Int),o,s,p) = (l,n,o,s,p)
 rw [this]))
def sigF : Fmt Sig := ⟨Rd.sig,Rd.sig',Sig.bytes,Sig.Fits,Sig.Fits⟩
theorem JWb : sigF.Law := by
 have hrd':∀ r:Rd,r.sig' = sigM.rd' r:=fun r=>by
  unfold Rd.sig' Rd.s2 Rd.sN
  simp only [sigM,zeroF,mapF,sigR,seqF,repF,numF,inF,JNO]
 refine J1x.same (fun r=>?_) hrd' (fun s hs=>?_) (fun s=>?_) (fun s hs=>?_) (fun _ h=>h)
 ·have e:sigM.rd r = if (sigM.rd' r).bad = true then Sig.zero else r.sig0:=by
   unfold Rd.sig0 Rd.s2 Rd.sN
   simp only [sigM,zeroF,mapF,sigR,seqF,repF,numF,inF,JNO]
  rw [e,← hrd']
  rfl
 ·show s.bytes = be8 s.leaf ++ (be8 (s.path.length:Int) ++ (repW (fun _=>dgF) [] s.op ++ (repW (fun _=>dgF) [] s.sh ++ repW (fun _=>dgF) [] s.path)))
  simp only [JdD]
  simp [Sig.bytes,nums,flatD,dgF]
 ·show s.Fits ↔ W64 s.leaf ∧ (W64 (s.path.length:Int) ∧ (0:Int) ≤ s.path.length ∧ (s.path.length:Int) ≤ 6) ∧ (s.op.length = 32 ∧ repG (fun _=>dgF) [] s.op) ∧ (s.sh.length = 32 ∧ repG (fun _=>dgF) [] s.sh) ∧ (s.path.length = (s.path.length:Int).toNat ∧ repG (fun _=>dgF) [] s.path)
  simp only [Jdf,Sig.Fits,W64]
  constructor
  ·rintro ⟨h1,h2,h3,h4⟩
   exact ⟨h1,⟨by omega,by omega,by omega⟩,⟨h2,fun _ _=>trivial⟩,⟨h3,fun _ _=>trivial⟩,by omega,fun _ _=>trivial⟩
  ·rintro ⟨h1,⟨_,_,h2⟩,⟨h3,_⟩,⟨h4,_⟩,_⟩
   exact ⟨h1,h3,h4,by omega⟩
 ·obtain ⟨h1,h2,h3,h4⟩:=hs
  show W64 s.leaf ∧ W64 (s.path.length:Int) ∧ (s.op.length = 32 ∧ repT (fun _=>dgF) [] s.op) ∧ (s.sh.length = 32 ∧ repT (fun _=>dgF) [] s.sh) ∧ (s.path.length = (s.path.length:Int).toNat ∧ repT (fun _=>dgF) [] s.path)
  simp only [JAp]
  exact ⟨h1,by unfold W64; omega,⟨h2,fun _ _=>trivial⟩,⟨h3,fun _ _=>trivial⟩,by omega,fun _ _=>trivial⟩
def reqR : Fmt (Int × Int × Int × Bytes × Bytes × Bytes × Int × Int × Int × Int × Dg) :=
 seqF (inF 1 64) fun _=>seqF (inF 1 1099511627776) fun _=>seqF (inF 1 7) fun _=>seqF (textF 1024) fun _=>seqF (textF 1024) fun _=>seqF (textF 1024) fun _=>seqF numF fun _=>seqF numF fun _=>seqF numF fun _=>seqF numF fun _=>dgF
theorem J0U : reqR.Law := Jm (JA _ _) fun _ => Jm (JA _ _) fun _ => Jm (JA _ _) fun _ => Jm (JuU _) fun _ => Jm (JuU _) fun _ => Jm (JuU _) fun _ => Jm JIw fun _ => Jm JIw fun _ => Jm JIw fun _ => Jm JIw fun _ => Jxe
def reqM : Fmt Req := zeroF (mapF reqR (fun x=>⟨x.1,x.2.1,x.2.2.1,x.2.2.2.1,x.2.2.2.2.1,x.2.2.2.2.2.1,⟨x.2.2.2.2.2.2.1,x.2.2.2.2.2.2.2.1,x.2.2.2.2.2.2.2.2.1,x.2.2.2.2.2.2.2.2.2.2,x.2.2.2.2.2.2.2.2.2.1⟩⟩)
 (fun q=>(q.client,q.num,q.kind,q.key,q.val,q.old,q.ch.kind,q.ch.id,q.ch.new,q.ch.height,q.ch.root))) Req.zero
theorem J0w : reqM.Law := Jeu _ (JbN J0U (fun _=>rfl) (fun _ _=>rfl))
def reqF : Fmt Req := ⟨Rd.req,Rd.req',Req.bytes,fun q=>q.Fits ∧ q.good = true,Req.Fits⟩
theorem JQU : reqF.Law := by
 refine J0w.same (fun _=>rfl) (fun _=>rfl) (fun q hq=>?_) (fun q=>?_) (fun q hq=>?_) (fun _ h=>h.1)
 ·have:=Req.bytes_eq q []
  rw [List.append_nil,List.append_nil] at this
  exact this
 ·show (q.Fits ∧ q.good = true) ↔ (W64 q.client ∧ 1 ≤ q.client ∧ q.client ≤ 64) ∧ (W64 q.num ∧ 1 ≤ q.num ∧ q.num ≤ 1099511627776) ∧ (W64 q.kind ∧ 1 ≤ q.kind ∧ q.kind ≤ 7) ∧ (q.key.length < 4294967296 ∧ (q.key.length:Int) ≤ 1024) ∧ (q.val.length < 4294967296 ∧ (q.val.length:Int) ≤ 1024) ∧ (q.old.length < 4294967296 ∧ (q.old.length:Int) ≤ 1024) ∧
   W64 q.ch.kind ∧ W64 q.ch.id ∧ W64 q.ch.new ∧ W64 q.ch.height ∧ True
  simp only [Req.good,Bool.and_eq_true,decide_eq_true_eq]
  constructor
  ·rintro ⟨hf,⟨⟨⟨⟨⟨g1,g2⟩,g3⟩,g4⟩,g5⟩,g6⟩,⟨g7,g8⟩,g9⟩
   exact ⟨⟨hf.client,g1,g2⟩,⟨hf.num,g3,g4⟩,⟨hf.kind,g5,g6⟩,⟨hf.key,by omega⟩,⟨hf.val,by omega⟩,⟨hf.old,by omega⟩,hf.ckind,hf.cid,hf.cnew,hf.cheight,trivial⟩
  ·rintro ⟨⟨f1,g1,g2⟩,⟨f2,g3,g4⟩,⟨f3,g5,g6⟩,⟨f4,g7⟩,⟨f5,g8⟩,⟨f6,g9⟩,f7,f8,f9,f10,_⟩
   exact ⟨⟨f1,f2,f3,f7,f8,f9,f10,f4,f5,f6⟩,⟨⟨⟨⟨⟨g1,g2⟩,g3⟩,g4⟩,g5⟩,g6⟩,⟨by omega,by omega⟩,by omega⟩
 ·exact ⟨hq.client,hq.num,hq.kind,hq.key,hq.val,hq.old,hq.ckind,hq.cid,hq.cnew,hq.cheight,trivial⟩
def replyR : Fmt (Int × Int × Int × List Bytes) := seqF (inF 1 64) fun _ => seqF (inF 1 1099511627776) fun _ => seqF (inF 0 1024) fun _ => cntF 0 256 (fun _=>textF 1024)
theorem JW8 : replyR.Law := Jm (JA _ _) fun _ => Jm (JA _ _) fun _ => Jm (JA _ _) fun _ => JAr (by omega) (fun _=>JuU _)
def replyM : Fmt Rep := zeroF (mapF replyR (fun x=>⟨x.1,x.2.1,x.2.2.1,x.2.2.2⟩) (fun a=>(a.client,a.num,a.code,a.vals))) Rep.zero
theorem JYe : replyM.Law := Jeu _ (JbN JW8 (fun _=>rfl) (fun _ _=>rfl))
def Rep.Good (a:Rep) : Prop := a.Fits ∧ (1 ≤ a.client ∧ a.client ≤ 64) ∧ (1 ≤ a.num ∧ a.num ≤ 1099511627776) ∧ (0 ≤ a.code ∧ a.code ≤ 1024) ∧ a.vals.length ≤ 256 ∧ ∀ v ∈ a.vals,v.length ≤ 1024
def replyF : Fmt Rep := ⟨Rd.rep,Rd.rep',Rep.bytes,Rep.Good,Rep.Fits⟩
theorem JLk : replyF.Law := by
 have hrd':∀ r:Rd,r.rep' = replyM.rd' r:=fun r=>by
  show _ = (repR (fun _=>textF 1024) r.p4 r.repN).2
  rw [JUL]; rfl
 refine JYe.same (fun r=>?_) hrd' (fun a ha=>?_) (fun a=>?_) (fun a ha=>?_) (fun _ h=>h.1)
 ·show r.rep = if (replyM.rd' r).bad = true then Rep.zero else _
  rw [← hrd']
  unfold Rd.rep
  congr 1
  show r.rep0 = ⟨r.inn 1 64,r.p1.inn 1 1099511627776,r.p2.inn 0 1024,(repR (fun _=>textF 1024) r.p4 r.repN).1⟩
  rw [JUL]; rfl
 ·show a.bytes = be8 a.client ++ (be8 a.num ++ (be8 a.code ++ (be8 (a.vals.length:Int) ++ repW (fun _=>textF 1024) [] a.vals)))
  rw [JdD]
  simp [Rep.bytes,nums,txts,textF]
 ·show a.Good ↔ (W64 a.client ∧ 1 ≤ a.client ∧ a.client ≤ 64) ∧ (W64 a.num ∧ 1 ≤ a.num ∧ a.num ≤ 1099511627776) ∧ (W64 a.code ∧ 0 ≤ a.code ∧ a.code ≤ 1024) ∧ (W64 (a.vals.length:Int) ∧ (0:Int) ≤ a.vals.length ∧ (a.vals.length:Int) ≤ 256) ∧ (a.vals.length = (a.vals.length:Int).toNat ∧ repG (fun _=>textF 1024) [] a.vals)
  rw [Jdf]
  constructor
  ·rintro ⟨hf,h1,h2,h3,h4,h5⟩
   refine ⟨⟨hf.client,h1⟩,⟨hf.num,h2⟩,⟨hf.code,h3⟩,⟨by unfold W64; omega,by omega,by omega⟩,by omega,fun v hv=>⟨hf.vals v hv,?_⟩⟩
   have:=h5 v hv
   omega
  ·rintro ⟨⟨f1,h1⟩,⟨f2,h2⟩,⟨f3,h3⟩,⟨_,_,h4⟩,_,h5⟩
   refine ⟨⟨f1,f2,f3,by omega,fun v hv=>(h5 v hv).1⟩,h1,h2,h3,by omega,fun v hv=>?_⟩
   have:=(h5 v hv).2
   omega
 ·show W64 a.client ∧ W64 a.num ∧ W64 a.code ∧ W64 (a.vals.length:Int) ∧ (a.vals.length = (a.vals.length:Int).toNat ∧ repT (fun _=>textF 1024) [] a.vals)
  rw [JAp]
  exact ⟨ha.client,ha.num,ha.code,JOb ha.len,by omega,ha.vals⟩
def blkR : Fmt (Int × Int × Dg × Dg × Dg × List Req) := seqF (inF 0 1073741824) fun _ => seqF (inF 1 1024) fun _ => seqF dgF fun _ => seqF dgF fun _ => seqF dgF fun _ => cntF 0 8 (fun _=>reqF)
theorem J1k : blkR.Law := Jm (JA _ _) fun _ => Jm (JA _ _) fun _ => Jm Jxe fun _ => Jm Jxe fun _ => Jm Jxe fun _ => JAr (by omega) (fun _=>JQU)
def blkM : Fmt Blk := zeroF (mapF blkR (fun x=>⟨x.1,x.2.1,x.2.2.1,x.2.2.2.1,x.2.2.2.2.1,x.2.2.2.2.2⟩) (fun b=>(b.epoch,b.height,b.prev,b.state,b.next,b.qs))) Blk.zero
theorem J1J : blkM.Law := Jeu _ (JbN J1k (fun _=>rfl) (fun _ _=>rfl))
def blkF : Fmt Blk := ⟨Rd.blk,Rd.blk',Blk.bytes,fun b=>b.Fits ∧ b.good = true,Blk.Fits⟩
theorem JNu : blkF.Law := by
 have hrd':∀ r:Rd,r.blk' = blkM.rd' r:=fun r=>by
  show _ = (repR (fun _=>reqF) r.b6 r.blkN).2
  rw [JVi reqF (fun _=>rfl) (fun _=>rfl)]; rfl
 refine J1J.same (fun r=>?_) hrd' (fun b hb=>?_) (fun b=>?_) (fun b hb=>?_) (fun _ h=>h.1)
 ·show r.blk = if (blkM.rd' r).bad = true then Blk.zero else _
  rw [← hrd']
  unfold Rd.blk
  congr 1
  show r.blk0 = ⟨r.inn 0 1073741824,r.b1.inn 1 1024,r.b2.dg,r.b3.dg,r.b4.dg,(repR (fun _=>reqF) r.b6 r.blkN).1⟩
  rw [JVi reqF (fun _=>rfl) (fun _=>rfl)]; rfl
 ·show b.bytes = be8 b.epoch ++ (be8 b.height ++ (b.prev.bs ++ (b.state.bs ++ (b.next.bs ++ (be8 (b.qs.length:Int) ++ repW (fun _=>reqF) [] b.qs)))))
  rw [JdD]
  have:=Blk.bytes_eq b []
  simp only [List.append_nil] at this
  rw [this]
  rfl
 ·show (b.Fits ∧ b.good = true) ↔ (W64 b.epoch ∧ 0 ≤ b.epoch ∧ b.epoch ≤ 1073741824) ∧ (W64 b.height ∧ 1 ≤ b.height ∧ b.height ≤ 1024) ∧ True ∧ True ∧ True ∧ (W64 (b.qs.length:Int) ∧ (0:Int) ≤ b.qs.length ∧ (b.qs.length:Int) ≤ 8) ∧ (b.qs.length = (b.qs.length:Int).toNat ∧ repG (fun _=>reqF) [] b.qs)
  rw [Jdf]
  simp only [Blk.good,Bool.and_eq_true,decide_eq_true_eq,List.all_eq_true]
  constructor
  ·rintro ⟨hf,⟨⟨⟨⟨g1,g2⟩,g3⟩,g4⟩,g5⟩,g6⟩
   exact ⟨⟨hf.epoch,g1,g2⟩,⟨hf.height,g3,g4⟩,trivial,trivial,trivial,⟨JOb hf.len,by omega,by omega⟩,by omega,fun q hq=>⟨hf.qs q hq,g6 q hq⟩⟩
  ·rintro ⟨⟨f1,g1,g2⟩,⟨f2,g3,g4⟩,_,_,_,⟨_,_,g5⟩,_,g6⟩
   exact ⟨⟨f1,f2,by omega,fun q hq=>(g6 q hq).1⟩,⟨⟨⟨⟨g1,g2⟩,g3⟩,g4⟩,by omega⟩,fun q hq=>(g6 q hq).2⟩
 ·show W64 b.epoch ∧ W64 b.height ∧ True ∧ True ∧ True ∧ W64 (b.qs.length:Int) ∧ (b.qs.length = (b.qs.length:Int).toNat ∧ repT (fun _=>reqF) [] b.qs)
  rw [JAp]
  exact ⟨hb.epoch,hb.height,trivial,trivial,trivial,JOb hb.len,by omega,hb.qs⟩
section
attribute [local irreducible] Rd.sig Rd.sig' Rd.blk Rd.blk' Rd.inn Rd.inn' Rd.dg Rd.dg' repR
structure Vote where
 kind:Int
 epoch:Int
 height:Int
 round:Int
 dg:Dg
 src:Int
 sig:Sig
def Vote.zero : Vote := ⟨0,0,0,0,Dg.zero,0,Sig.zero⟩
def voteR : Fmt (Int × Int × Int × Int × Int × Dg × Sig) := seqF (inF 1 2) fun _ => seqF (inF 0 1073741824) fun _ => seqF (inF 1 1024) fun _ => seqF (inF 0 1024) fun _ => seqF (inF 1 63) fun _ => seqF dgF fun _ => sigF
theorem JZr : voteR.Law := Jm (JA _ _) fun _ => Jm (JA _ _) fun _ => Jm (JA _ _) fun _ => Jm (JA _ _) fun _ => Jm (JA _ _) fun _ => Jm Jxe fun _ => JWb
def voteF : Fmt Vote := zeroF (mapF voteR (fun x=>⟨x.1,x.2.1,x.2.2.1,x.2.2.2.1,x.2.2.2.2.2.1,x.2.2.2.2.1,x.2.2.2.2.2.2⟩) (fun v=>(v.kind,v.epoch,v.height,v.round,v.src,v.dg,v.sig))) Vote.zero
theorem JJj : voteF.Law := Jeu _ (JbN JZr (fun _=>rfl) (fun _ _=>rfl))
theorem JTE (r:Rd) : voteF.rd' r = ((((((r.inn' 1 2).inn' 0 1073741824).inn' 1 1024).inn' 0 1024).inn' 1 63).dg').sig' := rfl
theorem JQc (r:Rd) : voteF.rd r = if (voteF.rd' r).bad = true then Vote.zero else
 ⟨r.inn 1 2,(r.inn' 1 2).inn 0 1073741824,((r.inn' 1 2).inn' 0 1073741824).inn 1 1024,(((r.inn' 1 2).inn' 0 1073741824).inn' 1 1024).inn 0 1024,(((((r.inn' 1 2).inn' 0 1073741824).inn' 1 1024).inn' 0 1024).inn' 1 63).dg,
  ((((r.inn' 1 2).inn' 0 1073741824).inn' 1 1024).inn' 0 1024).inn 1 63,((((((r.inn' 1 2).inn' 0 1073741824).inn' 1 1024).inn' 0 1024).inn' 1 63).dg').sig⟩:=rfl
def Vote.head (v:Vote) : Bytes := nums [v.kind,v.epoch,v.height,v.round,v.src] ++ v.dg.bs
theorem JWf (v:Vote) : voteF.wr v = v.head ++ v.sig.bytes := by
 show be8 v.kind ++ (be8 v.epoch ++ (be8 v.height ++ (be8 v.round ++ (be8 v.src ++ (v.dg.bs ++ v.sig.bytes))))) = _
 simp [Vote.head,nums]
def Vote.good (v:Vote) : Bool := decide (1 ≤ v.kind) && decide (v.kind ≤ 2) && decide (0 ≤ v.epoch) && decide (v.epoch ≤ 1073741824) && decide (1 ≤ v.height) && decide (v.height ≤ 1024) && decide (0 ≤ v.round) && decide (v.round ≤ 1024) && decide (1 ≤ v.src) && decide (v.src ≤ 63)
structure Plan where
 epoch:Int
 height:Int
 round:Int
 valid:Int
 blk:Blk
 src:Int
 sig:Sig
def Plan.zero : Plan := ⟨0,0,0,0,Blk.zero,0,Sig.zero⟩
def planR : Fmt (Int × Int × Int × Int × Int × Blk × Sig) := seqF (inF 0 1073741824) fun _ => seqF (inF 1 1024) fun _ => seqF (inF 0 1024) fun n => seqF (inF (-1) (n - 1)) fun _ => seqF (inF 1 63) fun _ => seqF blkF fun _ => sigF
theorem JYp : planR.Law := Jm (JA _ _) fun _ => Jm (JA _ _) fun _ => Jm (JA _ _) fun _ => Jm (JA _ _) fun _ => Jm (JA _ _) fun _ => Jm JNu fun _ => JWb
def planF : Fmt Plan := zeroF (mapF planR (fun x=>⟨x.1,x.2.1,x.2.2.1,x.2.2.2.1,x.2.2.2.2.2.1,x.2.2.2.2.1,x.2.2.2.2.2.2⟩) (fun p=>(p.epoch,p.height,p.round,p.valid,p.src,p.blk,p.sig))) Plan.zero
theorem JZW : planF.Law := Jeu _ (JbN JYp (fun _=>rfl) (fun _ _=>rfl))
theorem JR5 (r:Rd) : planF.rd' r = ((((((r.inn' 0 1073741824).inn' 1 1024).inn' 0 1024).inn' (-1) (((r.inn' 0 1073741824).inn' 1 1024).inn 0 1024 - 1)).inn' 1 63).blk').sig' := rfl
theorem JQi (r:Rd) : planF.rd r = if (planF.rd' r).bad = true then Plan.zero else
 ⟨r.inn 0 1073741824,(r.inn' 0 1073741824).inn 1 1024,((r.inn' 0 1073741824).inn' 1 1024).inn 0 1024,(((r.inn' 0 1073741824).inn' 1 1024).inn' 0 1024).inn (-1) (((r.inn' 0 1073741824).inn' 1 1024).inn 0 1024 - 1),
  (((((r.inn' 0 1073741824).inn' 1 1024).inn' 0 1024).inn' (-1) (((r.inn' 0 1073741824).inn' 1 1024).inn 0 1024 - 1)).inn' 1 63).blk,
  ((((r.inn' 0 1073741824).inn' 1 1024).inn' 0 1024).inn' (-1) (((r.inn' 0 1073741824).inn' 1 1024).inn 0 1024 - 1)).inn 1 63,
  ((((((r.inn' 0 1073741824).inn' 1 1024).inn' 0 1024).inn' (-1) (((r.inn' 0 1073741824).inn' 1 1024).inn 0 1024 - 1)).inn' 1 63).blk').sig⟩:=rfl
def Plan.head (p:Plan) : Bytes := nums [p.epoch,p.height,p.round,p.valid,p.src] ++ p.blk.bytes
theorem JQo (p:Plan) : planF.wr p = p.head ++ p.sig.bytes := by
 show be8 p.epoch ++ (be8 p.height ++ (be8 p.round ++ (be8 p.valid ++ (be8 p.src ++ (p.blk.bytes ++ p.sig.bytes))))) = _
 simp [Plan.head,nums]
structure Mem where
 id:Int
 root:Dg
 height:Int
structure Conf where
 epoch:Int
 ms:List Mem
def Conf.zero : Conf := ⟨0,[]⟩
def lastId (l:List Mem) : Int := match l.getLast? with
 | some m=>m.id
 | none=>0
@[simp] theorem J5L : lastId [] = 0 := (rfl)
@[simp] theorem JO3 (l:List Mem) (m:Mem) : lastId (l ++ [m]) = m.id := by simp [lastId]
def memF (l:List Mem) : Fmt Mem := mapF (seqF (inF (lastId l + 1) 63) fun _=>seqF (inF 0 6) fun _=>dgF) (fun x=>⟨x.1,x.2.2,x.2.1⟩) (fun m=>(m.id,m.height,m.root))
theorem J08 (l:List Mem) : (memF l).Law := JbN (Jm (JA _ _) fun _=>Jm (JA _ _) fun _=>Jxe) (fun _=>rfl) (fun _ _=>rfl)
def confF : Fmt Conf := zeroF (mapF (seqF (inF 0 1073741824) fun _=>cntF 1 10 memF) (fun x=>⟨x.1,x.2⟩) (fun c=>(c.epoch,c.ms))) Conf.zero
theorem JZR : confF.Law := Jeu _ (JbN (Jm (JA _ _) fun _=>JAr (by omega) J08) (fun _=>rfl) (fun _ _=>rfl))
def Rd.confN (r:Rd) : Nat := ((r.inn' 0 1073741824).inn 1 10).toNat
theorem JS7 (r:Rd) : confF.rd' r = (repR memF ((r.inn' 0 1073741824).inn' 1 10) r.confN).2 := rfl
theorem JRg (r:Rd) : confF.rd r = if (confF.rd' r).bad = true then Conf.zero else ⟨r.inn 0 1073741824,(repR memF ((r.inn' 0 1073741824).inn' 1 10) r.confN).1⟩ := rfl
def memB (m:Mem) : Bytes := nums [m.id,m.height] ++ m.root.bs
def memsB (ms:List Mem) : Bytes := ms.flatMap memB
theorem JWw : ∀ (ms l:List Mem),repW memF l ms = memsB ms
 | [],_=>rfl
 | m :: ms,l=>by
   show (be8 m.id ++ (be8 m.height ++ m.root.bs)) ++ repW memF (l ++ [m]) ms = memsB (m :: ms)
   rw [JWw ms]
   simp [memsB,memB,nums]
def Conf.bytes (c:Conf) : Bytes := nums [c.epoch,(c.ms.length:Int)] ++ memsB c.ms
theorem J1d (c:Conf) : confF.wr c = c.bytes := by
 show be8 c.epoch ++ (be8 (c.ms.length:Int) ++ repW memF [] c.ms) = _
 rw [JWw]
 simp [Conf.bytes,nums]
structure Cert where
 round:Int
 votes:List Vote
def Cert.zero : Cert := ⟨0,[]⟩
def certF : Fmt Cert := zeroF (mapF (seqF (inF 0 1024) fun _=>cntF 1 10 (fun _=>voteF)) (fun x=>⟨x.1,x.2⟩) (fun c=>(c.round,c.votes))) Cert.zero
theorem JNW : certF.Law := Jeu _ (JbN (Jm (JA _ _) fun _=>JAr (by omega) (fun _=>JJj)) (fun _=>rfl) (fun _ _=>rfl))
def Rd.certN (r:Rd) : Nat := ((r.inn' 0 1024).inn 1 10).toNat
theorem JSe (r:Rd) : certF.rd' r = (repR (fun _=>voteF) ((r.inn' 0 1024).inn' 1 10) r.certN).2 := rfl
theorem JQE (r:Rd) : certF.rd r = if (certF.rd' r).bad = true then Cert.zero else ⟨r.inn 0 1024,(repR (fun _=>voteF) ((r.inn' 0 1024).inn' 1 10) r.certN).1⟩ := rfl
def votesB (vs:List Vote) : Bytes := vs.flatMap voteF.wr
theorem JUz (vs:List Vote) (v:Vote) : votesB (vs ++ [v]) = votesB vs ++ voteF.wr v := by simp [votesB]
def Cert.bytes (c:Cert) : Bytes := nums [c.round,(c.votes.length:Int)] ++ votesB c.votes
theorem JQX (c:Cert) : certF.wr c = c.bytes := by
 show be8 c.round ++ (be8 (c.votes.length:Int) ++ repW (fun _=>voteF) [] c.votes) = _
 rw [JdD]
 simp [Cert.bytes,nums,votesB]
def Cert.ok (c:Cert) : Bool := c.votes.all fun v => v.sig.ok
structure Lnk where
 blk:Blk
 cert:Cert
 conf:Conf
def Lnk.zero : Lnk := ⟨Blk.zero,Cert.zero,Conf.zero⟩
def linkF : Fmt Lnk := zeroF (mapF (seqF blkF fun _=>seqF certF fun _=>confF) (fun x=>⟨x.1,x.2.1,x.2.2⟩) (fun l=>(l.blk,l.cert,l.conf))) Lnk.zero
theorem JyY : linkF.Law := Jeu _ (JbN (Jm JNu fun _=>Jm JNW fun _=>JZR) (fun _=>rfl) (fun _ _=>rfl))
theorem JTe (r:Rd) : linkF.rd' r = confF.rd' (certF.rd' r.blk') := rfl
theorem JQv (r:Rd) : linkF.rd r = if (linkF.rd' r).bad = true then Lnk.zero else ⟨r.blk,certF.rd r.blk',confF.rd (certF.rd' r.blk')⟩ := rfl
theorem JQ3 (l:Lnk) : linkF.wr l = l.blk.bytes ++ (l.cert.bytes ++ l.conf.bytes) := by
 show l.blk.bytes ++ (certF.wr l.cert ++ confF.wr l.conf) = _
 rw [JQX,J1d]
end
@[simp] theorem Sig.avS_closed (q:Sig) : closed (Sig.avS q) = true := by simp [Sig.avS]
@[simp] theorem Sig.avS_solid (q:Sig) : (Sig.avS q).solid = true := by simp [Sig.avS]
@[simp] theorem Sig.avS_agg (q:Sig) : (Sig.avS q).isAgg = true := by simp [Sig.avS]
@[simp] theorem Sig.avS_size (q:Sig) : (Sig.avS q).size = 4 := by simp [Sig.avS]
@[simp] theorem Sig.avS_sub (q:Sig) : sub true 4 (Sig.avS q) 0 = some (Sig.avS q) := by simp [Sig.avS]
@[simp] theorem Sig.avS_good {M:List (Nat × Loc)} (q:Sig) : goodA false M (Sig.avS q) = true := JG (Sig.avS_closed q)
@[simp] theorem Sig.avS_pairs (q:Sig) : pairsA (Sig.avS q) (Sig.avS q) = [] := Jv (Sig.avS_closed q)
@[simp] theorem Sig.avS_ren {L:Names} {nb gn:Nat} (q:Sig) : renA L nb gn (Sig.avS q) = Sig.avS q := JN (Sig.avS_closed q)
@[simp] theorem Sig.avS_fit {m:Nat → Option Loc} {L:Names} (q:Sig) : Fit m L (Sig.avS q) (Sig.avS q) = True := JY (Sig.avS_closed q)
@[simp] theorem Sig.avS_fitR {m:Nat → Option Loc} {L:Names} (q:Sig) : FitR m L (Sig.avS q) (Sig.avS q) = True := JM (Sig.avS_closed q)
@[simp] theorem Sig.avS_touch {m:Nat → Option Loc} (q:Sig) : touch m (Sig.avS q) (Sig.avS q) = [] := JE (Sig.avS_closed q)
@[simp] theorem Sig.avS_touchR {m:Nat → Option Loc} (q:Sig) : touchR m (Sig.avS q) (Sig.avS q) = [] := Jy (Sig.avS_closed q)
@[simp] theorem Sig.avS_stamped {U:Nat → Prop} (q:Sig) : Stamped U (Sig.avS q) = True := Jt (Sig.avS_closed q)
@[simp] theorem Sig.avS_tup (q:Sig) : (Sig.avS q).isTup = false := JC (Sig.avS_closed q)
@[simp] theorem Sig.avS_ref (q:Sig) : refOf (Sig.avS q) = none := JB (Sig.avS_closed q)
@[simp] theorem Sig.avS_put (q:Sig) (x:AV) : putAt true 4 x (Sig.avS q) 0 = some x := by simp [Sig.avS]
@[simp] theorem Blk.avS_closed (q:Blk) : closed (Blk.avS q) = true := by simp [Blk.avS]
@[simp] theorem Blk.avS_solid (q:Blk) : (Blk.avS q).solid = true := by simp [Blk.avS]
@[simp] theorem Blk.avS_agg (q:Blk) : (Blk.avS q).isAgg = true := by simp [Blk.avS]
@[simp] theorem Blk.avS_size (q:Blk) : (Blk.avS q).size = 99 := by simp [Blk.avS]
@[simp] theorem Blk.avS_sub (q:Blk) : sub true 99 (Blk.avS q) 0 = some (Blk.avS q) := by simp [Blk.avS]
@[simp] theorem Blk.avS_good {M:List (Nat × Loc)} (q:Blk) : goodA false M (Blk.avS q) = true := JG (Blk.avS_closed q)
@[simp] theorem Blk.avS_pairs (q:Blk) : pairsA (Blk.avS q) (Blk.avS q) = [] := Jv (Blk.avS_closed q)
@[simp] theorem Blk.avS_ren {L:Names} {nb gn:Nat} (q:Blk) : renA L nb gn (Blk.avS q) = Blk.avS q := JN (Blk.avS_closed q)
@[simp] theorem Blk.avS_fit {m:Nat → Option Loc} {L:Names} (q:Blk) : Fit m L (Blk.avS q) (Blk.avS q) = True := JY (Blk.avS_closed q)
@[simp] theorem Blk.avS_fitR {m:Nat → Option Loc} {L:Names} (q:Blk) : FitR m L (Blk.avS q) (Blk.avS q) = True := JM (Blk.avS_closed q)
@[simp] theorem Blk.avS_touch {m:Nat → Option Loc} (q:Blk) : touch m (Blk.avS q) (Blk.avS q) = [] := JE (Blk.avS_closed q)
@[simp] theorem Blk.avS_touchR {m:Nat → Option Loc} (q:Blk) : touchR m (Blk.avS q) (Blk.avS q) = [] := Jy (Blk.avS_closed q)
@[simp] theorem Blk.avS_stamped {U:Nat → Prop} (q:Blk) : Stamped U (Blk.avS q) = True := Jt (Blk.avS_closed q)
@[simp] theorem Blk.avS_tup (q:Blk) : (Blk.avS q).isTup = false := JC (Blk.avS_closed q)
@[simp] theorem Blk.avS_ref (q:Blk) : refOf (Blk.avS q) = none := JB (Blk.avS_closed q)
@[simp] theorem Blk.avS_put (q:Blk) (x:AV) : putAt true 99 x (Blk.avS q) 0 = some x := by simp [Blk.avS]
@[simp] theorem Rep.avS_closed (q:Rep) : closed (Rep.avS q) = true := by simp [Rep.avS]
@[simp] theorem Rep.avS_solid (q:Rep) : (Rep.avS q).solid = true := by simp [Rep.avS]
@[simp] theorem Rep.avS_agg (q:Rep) : (Rep.avS q).isAgg = true := by simp [Rep.avS]
@[simp] theorem Rep.avS_size (q:Rep) : (Rep.avS q).size = 4 := by simp [Rep.avS]
@[simp] theorem Rep.avS_sub (q:Rep) : sub true 4 (Rep.avS q) 0 = some (Rep.avS q) := by simp [Rep.avS]
@[simp] theorem Rep.avS_good {M:List (Nat × Loc)} (q:Rep) : goodA false M (Rep.avS q) = true := JG (Rep.avS_closed q)
@[simp] theorem Rep.avS_pairs (q:Rep) : pairsA (Rep.avS q) (Rep.avS q) = [] := Jv (Rep.avS_closed q)
@[simp] theorem Rep.avS_ren {L:Names} {nb gn:Nat} (q:Rep) : renA L nb gn (Rep.avS q) = Rep.avS q := JN (Rep.avS_closed q)
@[simp] theorem Rep.avS_fit {m:Nat → Option Loc} {L:Names} (q:Rep) : Fit m L (Rep.avS q) (Rep.avS q) = True := JY (Rep.avS_closed q)
@[simp] theorem Rep.avS_fitR {m:Nat → Option Loc} {L:Names} (q:Rep) : FitR m L (Rep.avS q) (Rep.avS q) = True := JM (Rep.avS_closed q)
@[simp] theorem Rep.avS_touch {m:Nat → Option Loc} (q:Rep) : touch m (Rep.avS q) (Rep.avS q) = [] := JE (Rep.avS_closed q)
@[simp] theorem Rep.avS_touchR {m:Nat → Option Loc} (q:Rep) : touchR m (Rep.avS q) (Rep.avS q) = [] := Jy (Rep.avS_closed q)
@[simp] theorem Rep.avS_stamped {U:Nat → Prop} (q:Rep) : Stamped U (Rep.avS q) = True := Jt (Rep.avS_closed q)
@[simp] theorem Rep.avS_tup (q:Rep) : (Rep.avS q).isTup = false := JC (Rep.avS_closed q)
@[simp] theorem Rep.avS_ref (q:Rep) : refOf (Rep.avS q) = none := JB (Rep.avS_closed q)
@[simp] theorem Rep.avS_put (q:Rep) (x:AV) : putAt true 4 x (Rep.avS q) 0 = some x := by simp [Rep.avS]
@[simp] theorem Req.av_good {M:List (Nat × Loc)} (q:Req) : goodA false M (Req.av q) = true := JG (Req.av_closed q)
@[simp] theorem Req.av_pairs (q:Req) : pairsA (Req.av q) (Req.av q) = [] := Jv (Req.av_closed q)
@[simp] theorem Req.av_ren {L:Names} {nb gn:Nat} (q:Req) : renA L nb gn (Req.av q) = Req.av q := JN (Req.av_closed q)
@[simp] theorem Req.av_fit {m:Nat → Option Loc} {L:Names} (q:Req) : Fit m L (Req.av q) (Req.av q) = True := JY (Req.av_closed q)
@[simp] theorem Req.av_fitR {m:Nat → Option Loc} {L:Names} (q:Req) : FitR m L (Req.av q) (Req.av q) = True := JM (Req.av_closed q)
@[simp] theorem Req.av_touch {m:Nat → Option Loc} (q:Req) : touch m (Req.av q) (Req.av q) = [] := JE (Req.av_closed q)
@[simp] theorem Req.av_touchR {m:Nat → Option Loc} (q:Req) : touchR m (Req.av q) (Req.av q) = [] := Jy (Req.av_closed q)
@[simp] theorem Req.av_stamped {U:Nat → Prop} (q:Req) : Stamped U (Req.av q) = True := Jt (Req.av_closed q)
@[simp] theorem Req.av_tup (q:Req) : (Req.av q).isTup = false := JC (Req.av_closed q)
@[simp] theorem Req.av_ref (q:Req) : refOf (Req.av q) = none := JB (Req.av_closed q)
@[simp] theorem Req.av_put (q:Req) (x:AV) : putAt true 42 x (Req.av q) 0 = some x := by simp [Req.av,Chg.av]
def Vote.av (v:Vote) : AV := .node [.v (.int .i64 v.kind),.v (.int .i64 v.epoch),.v (.int .i64 v.height),.v (.int .i64 v.round),dv v.dg,.v (.int .i64 v.src),v.sig.avS]
@[simp] theorem Vote.av_closed (q:Vote) : closed (Vote.av q) = true := by simp [Vote.av]
@[simp] theorem Vote.av_solid (q:Vote) : (Vote.av q).solid = true := by simp [Vote.av]
@[simp] theorem Vote.av_agg (q:Vote) : (Vote.av q).isAgg = true := by simp [Vote.av]
@[simp] theorem Vote.av_size (q:Vote) : (Vote.av q).size = 41 := by simp [Vote.av]
@[simp] theorem Vote.av_sub (q:Vote) : sub true 41 (Vote.av q) 0 = some (Vote.av q) := by simp [Vote.av]
@[simp] theorem Vote.av_good {M:List (Nat × Loc)} (q:Vote) : goodA false M (Vote.av q) = true := JG (Vote.av_closed q)
@[simp] theorem Vote.av_pairs (q:Vote) : pairsA (Vote.av q) (Vote.av q) = [] := Jv (Vote.av_closed q)
@[simp] theorem Vote.av_ren {L:Names} {nb gn:Nat} (q:Vote) : renA L nb gn (Vote.av q) = Vote.av q := JN (Vote.av_closed q)
@[simp] theorem Vote.av_fit {m:Nat → Option Loc} {L:Names} (q:Vote) : Fit m L (Vote.av q) (Vote.av q) = True := JY (Vote.av_closed q)
@[simp] theorem Vote.av_fitR {m:Nat → Option Loc} {L:Names} (q:Vote) : FitR m L (Vote.av q) (Vote.av q) = True := JM (Vote.av_closed q)
@[simp] theorem Vote.av_touch {m:Nat → Option Loc} (q:Vote) : touch m (Vote.av q) (Vote.av q) = [] := JE (Vote.av_closed q)
@[simp] theorem Vote.av_touchR {m:Nat → Option Loc} (q:Vote) : touchR m (Vote.av q) (Vote.av q) = [] := Jy (Vote.av_closed q)
@[simp] theorem Vote.av_stamped {U:Nat → Prop} (q:Vote) : Stamped U (Vote.av q) = True := Jt (Vote.av_closed q)
@[simp] theorem Vote.av_tup (q:Vote) : (Vote.av q).isTup = false := JC (Vote.av_closed q)
@[simp] theorem Vote.av_ref (q:Vote) : refOf (Vote.av q) = none := JB (Vote.av_closed q)
@[simp] theorem Vote.av_put (q:Vote) (x:AV) : putAt true 41 x (Vote.av q) 0 = some x := by simp [Vote.av]
def Votes (l:List Vote) : List AV := l.map Vote.av
@[simp] theorem J2A (l:List Vote) : (Votes l).length = l.length := by simp [Votes]
@[simp] theorem J2L (l:List Vote) : closeds (Votes l) = true := by simp [Votes,closeds_all]
@[simp] theorem J62 (n:Nat) (l:List Vote) : (Votes l)[n]? = (l[n]?).map Vote.av := by simp [Votes]
@[simp] theorem J1w (n:Nat) (l:List Vote) (h:n < (Votes l).length) : (Votes l)[n] = Vote.av (l[n]'(by simpa [Votes] using h)) := by simp [Votes]
@[simp] theorem J2B (a b:List Vote) : Votes a ++ Votes b = Votes (a ++ b) := by simp [Votes]
@[simp] theorem J5M (n:Nat) (a:List Vote) : (Votes a).drop n = Votes (a.drop n) := by simp [Votes]
@[simp] theorem J5Q (n:Nat) (a:List Vote) : (Votes a).take n = Votes (a.take n) := by simp [Votes]
@[simp] theorem J6z : Votes [] = [] := (rfl)
theorem JPA (l:List Vote) (a:Vote) : Votes l ++ [Vote.av a] = Votes (l ++ [a]) := by simp [Votes]
def Plan.av (p:Plan) : AV := .node [.v (.int .i64 p.epoch),.v (.int .i64 p.height),.v (.int .i64 p.round),.v (.int .i64 p.valid),p.blk.avS,.v (.int .i64 p.src),p.sig.avS]
@[simp] theorem Plan.av_closed (q:Plan) : closed (Plan.av q) = true := by simp [Plan.av]
@[simp] theorem Plan.av_solid (q:Plan) : (Plan.av q).solid = true := by simp [Plan.av]
@[simp] theorem Plan.av_agg (q:Plan) : (Plan.av q).isAgg = true := by simp [Plan.av]
@[simp] theorem Plan.av_size (q:Plan) : (Plan.av q).size = 108 := by simp [Plan.av]
@[simp] theorem Plan.av_sub (q:Plan) : sub true 108 (Plan.av q) 0 = some (Plan.av q) := by simp [Plan.av]
@[simp] theorem Plan.av_good {M:List (Nat × Loc)} (q:Plan) : goodA false M (Plan.av q) = true := JG (Plan.av_closed q)
@[simp] theorem Plan.av_pairs (q:Plan) : pairsA (Plan.av q) (Plan.av q) = [] := Jv (Plan.av_closed q)
@[simp] theorem Plan.av_ren {L:Names} {nb gn:Nat} (q:Plan) : renA L nb gn (Plan.av q) = Plan.av q := JN (Plan.av_closed q)
@[simp] theorem Plan.av_fit {m:Nat → Option Loc} {L:Names} (q:Plan) : Fit m L (Plan.av q) (Plan.av q) = True := JY (Plan.av_closed q)
@[simp] theorem Plan.av_fitR {m:Nat → Option Loc} {L:Names} (q:Plan) : FitR m L (Plan.av q) (Plan.av q) = True := JM (Plan.av_closed q)
@[simp] theorem Plan.av_touch {m:Nat → Option Loc} (q:Plan) : touch m (Plan.av q) (Plan.av q) = [] := JE (Plan.av_closed q)
@[simp] theorem Plan.av_touchR {m:Nat → Option Loc} (q:Plan) : touchR m (Plan.av q) (Plan.av q) = [] := Jy (Plan.av_closed q)
@[simp] theorem Plan.av_stamped {U:Nat → Prop} (q:Plan) : Stamped U (Plan.av q) = True := Jt (Plan.av_closed q)
@[simp] theorem Plan.av_tup (q:Plan) : (Plan.av q).isTup = false := JC (Plan.av_closed q)
@[simp] theorem Plan.av_ref (q:Plan) : refOf (Plan.av q) = none := JB (Plan.av_closed q)
@[simp] theorem Plan.av_put (q:Plan) (x:AV) : putAt true 108 x (Plan.av q) 0 = some x := by simp [Plan.av]
def Mem.av (m:Mem) : AV := .node [.v (.int .i64 m.id),.node [dv m.root,.v (.int .i64 m.height)]]
@[simp] theorem Mem.av_closed (q:Mem) : closed (Mem.av q) = true := by simp [Mem.av]
@[simp] theorem Mem.av_solid (q:Mem) : (Mem.av q).solid = true := by simp [Mem.av]
@[simp] theorem Mem.av_agg (q:Mem) : (Mem.av q).isAgg = true := by simp [Mem.av]
@[simp] theorem Mem.av_size (q:Mem) : (Mem.av q).size = 34 := by simp [Mem.av]
@[simp] theorem Mem.av_sub (q:Mem) : sub true 34 (Mem.av q) 0 = some (Mem.av q) := by simp [Mem.av]
@[simp] theorem Mem.av_good {M:List (Nat × Loc)} (q:Mem) : goodA false M (Mem.av q) = true := JG (Mem.av_closed q)
@[simp] theorem Mem.av_pairs (q:Mem) : pairsA (Mem.av q) (Mem.av q) = [] := Jv (Mem.av_closed q)
@[simp] theorem Mem.av_ren {L:Names} {nb gn:Nat} (q:Mem) : renA L nb gn (Mem.av q) = Mem.av q := JN (Mem.av_closed q)
@[simp] theorem Mem.av_fit {m:Nat → Option Loc} {L:Names} (q:Mem) : Fit m L (Mem.av q) (Mem.av q) = True := JY (Mem.av_closed q)
@[simp] theorem Mem.av_fitR {m:Nat → Option Loc} {L:Names} (q:Mem) : FitR m L (Mem.av q) (Mem.av q) = True := JM (Mem.av_closed q)
@[simp] theorem Mem.av_touch {m:Nat → Option Loc} (q:Mem) : touch m (Mem.av q) (Mem.av q) = [] := JE (Mem.av_closed q)
@[simp] theorem Mem.av_touchR {m:Nat → Option Loc} (q:Mem) : touchR m (Mem.av q) (Mem.av q) = [] := Jy (Mem.av_closed q)
@[simp] theorem Mem.av_stamped {U:Nat → Prop} (q:Mem) : Stamped U (Mem.av q) = True := Jt (Mem.av_closed q)
@[simp] theorem Mem.av_tup (q:Mem) : (Mem.av q).isTup = false := JC (Mem.av_closed q)
@[simp] theorem Mem.av_ref (q:Mem) : refOf (Mem.av q) = none := JB (Mem.av_closed q)
@[simp] theorem Mem.av_put (q:Mem) (x:AV) : putAt true 34 x (Mem.av q) 0 = some x := by simp [Mem.av]
def Mems (l:List Mem) : List AV := l.map Mem.av
@[simp] theorem J32 (l:List Mem) : (Mems l).length = l.length := by simp [Mems]
@[simp] theorem J3g (l:List Mem) : closeds (Mems l) = true := by simp [Mems,closeds_all]
@[simp] theorem J76 (n:Nat) (l:List Mem) : (Mems l)[n]? = (l[n]?).map Mem.av := by simp [Mems]
@[simp] theorem J26 (n:Nat) (l:List Mem) (h:n < (Mems l).length) : (Mems l)[n] = Mem.av (l[n]'(by simpa [Mems] using h)) := by simp [Mems]
@[simp] theorem J4s (a b:List Mem) : Mems a ++ Mems b = Mems (a ++ b) := by simp [Mems]
@[simp] theorem J61 (n:Nat) (a:List Mem) : (Mems a).drop n = Mems (a.drop n) := by simp [Mems]
@[simp] theorem J55 (n:Nat) (a:List Mem) : (Mems a).take n = Mems (a.take n) := by simp [Mems]
@[simp] theorem J8W : Mems [] = [] := (rfl)
theorem JSx (l:List Mem) (a:Mem) : Mems l ++ [Mem.av a] = Mems (l ++ [a]) := by simp [Mems]
def Conf.av (c:Conf) : AV := .node [.v (.int .i64 c.epoch),.sl 34 (Mems c.ms)]
@[simp] theorem Conf.av_closed (q:Conf) : closed (Conf.av q) = true := by simp [Conf.av]
@[simp] theorem Conf.av_solid (q:Conf) : (Conf.av q).solid = true := by simp [Conf.av]
@[simp] theorem Conf.av_agg (q:Conf) : (Conf.av q).isAgg = true := by simp [Conf.av]
@[simp] theorem Conf.av_size (q:Conf) : (Conf.av q).size = 2 := by simp [Conf.av]
@[simp] theorem Conf.av_sub (q:Conf) : sub true 2 (Conf.av q) 0 = some (Conf.av q) := by simp [Conf.av]
@[simp] theorem Conf.av_good {M:List (Nat × Loc)} (q:Conf) : goodA false M (Conf.av q) = true := JG (Conf.av_closed q)
@[simp] theorem Conf.av_pairs (q:Conf) : pairsA (Conf.av q) (Conf.av q) = [] := Jv (Conf.av_closed q)
@[simp] theorem Conf.av_ren {L:Names} {nb gn:Nat} (q:Conf) : renA L nb gn (Conf.av q) = Conf.av q := JN (Conf.av_closed q)
@[simp] theorem Conf.av_fit {m:Nat → Option Loc} {L:Names} (q:Conf) : Fit m L (Conf.av q) (Conf.av q) = True := JY (Conf.av_closed q)
@[simp] theorem Conf.av_fitR {m:Nat → Option Loc} {L:Names} (q:Conf) : FitR m L (Conf.av q) (Conf.av q) = True := JM (Conf.av_closed q)
@[simp] theorem Conf.av_touch {m:Nat → Option Loc} (q:Conf) : touch m (Conf.av q) (Conf.av q) = [] := JE (Conf.av_closed q)
@[simp] theorem Conf.av_touchR {m:Nat → Option Loc} (q:Conf) : touchR m (Conf.av q) (Conf.av q) = [] := Jy (Conf.av_closed q)
@[simp] theorem Conf.av_stamped {U:Nat → Prop} (q:Conf) : Stamped U (Conf.av q) = True := Jt (Conf.av_closed q)
@[simp] theorem Conf.av_tup (q:Conf) : (Conf.av q).isTup = false := JC (Conf.av_closed q)
@[simp] theorem Conf.av_ref (q:Conf) : refOf (Conf.av q) = none := JB (Conf.av_closed q)
@[simp] theorem Conf.av_put (q:Conf) (x:AV) : putAt true 2 x (Conf.av q) 0 = some x := by simp [Conf.av]
def Cert.av (c:Cert) : AV := .node [.v (.int .i64 c.round),.sl 41 (Votes c.votes)]
@[simp] theorem Cert.av_closed (q:Cert) : closed (Cert.av q) = true := by simp [Cert.av]
@[simp] theorem Cert.av_solid (q:Cert) : (Cert.av q).solid = true := by simp [Cert.av]
@[simp] theorem Cert.av_agg (q:Cert) : (Cert.av q).isAgg = true := by simp [Cert.av]
@[simp] theorem Cert.av_size (q:Cert) : (Cert.av q).size = 2 := by simp [Cert.av]
@[simp] theorem Cert.av_sub (q:Cert) : sub true 2 (Cert.av q) 0 = some (Cert.av q) := by simp [Cert.av]
@[simp] theorem Cert.av_good {M:List (Nat × Loc)} (q:Cert) : goodA false M (Cert.av q) = true := JG (Cert.av_closed q)
@[simp] theorem Cert.av_pairs (q:Cert) : pairsA (Cert.av q) (Cert.av q) = [] := Jv (Cert.av_closed q)
@[simp] theorem Cert.av_ren {L:Names} {nb gn:Nat} (q:Cert) : renA L nb gn (Cert.av q) = Cert.av q := JN (Cert.av_closed q)
@[simp] theorem Cert.av_fit {m:Nat → Option Loc} {L:Names} (q:Cert) : Fit m L (Cert.av q) (Cert.av q) = True := JY (Cert.av_closed q)
@[simp] theorem Cert.av_fitR {m:Nat → Option Loc} {L:Names} (q:Cert) : FitR m L (Cert.av q) (Cert.av q) = True := JM (Cert.av_closed q)
@[simp] theorem Cert.av_touch {m:Nat → Option Loc} (q:Cert) : touch m (Cert.av q) (Cert.av q) = [] := JE (Cert.av_closed q)
@[simp] theorem Cert.av_touchR {m:Nat → Option Loc} (q:Cert) : touchR m (Cert.av q) (Cert.av q) = [] := Jy (Cert.av_closed q)
@[simp] theorem Cert.av_stamped {U:Nat → Prop} (q:Cert) : Stamped U (Cert.av q) = True := Jt (Cert.av_closed q)
@[simp] theorem Cert.av_tup (q:Cert) : (Cert.av q).isTup = false := JC (Cert.av_closed q)
@[simp] theorem Cert.av_ref (q:Cert) : refOf (Cert.av q) = none := JB (Cert.av_closed q)
@[simp] theorem Cert.av_put (q:Cert) (x:AV) : putAt true 2 x (Cert.av q) 0 = some x := by simp [Cert.av]
def Lnk.av (l:Lnk) : AV := .node [l.blk.avS,l.cert.av,l.conf.av]
@[simp] theorem Lnk.av_closed (q:Lnk) : closed (Lnk.av q) = true := by simp [Lnk.av]
@[simp] theorem Lnk.av_solid (q:Lnk) : (Lnk.av q).solid = true := by simp [Lnk.av]
@[simp] theorem Lnk.av_agg (q:Lnk) : (Lnk.av q).isAgg = true := by simp [Lnk.av]
@[simp] theorem Lnk.av_size (q:Lnk) : (Lnk.av q).size = 103 := by simp [Lnk.av]
@[simp] theorem Lnk.av_sub (q:Lnk) : sub true 103 (Lnk.av q) 0 = some (Lnk.av q) := by simp [Lnk.av]
@[simp] theorem Lnk.av_good {M:List (Nat × Loc)} (q:Lnk) : goodA false M (Lnk.av q) = true := JG (Lnk.av_closed q)
@[simp] theorem Lnk.av_pairs (q:Lnk) : pairsA (Lnk.av q) (Lnk.av q) = [] := Jv (Lnk.av_closed q)
@[simp] theorem Lnk.av_ren {L:Names} {nb gn:Nat} (q:Lnk) : renA L nb gn (Lnk.av q) = Lnk.av q := JN (Lnk.av_closed q)
@[simp] theorem Lnk.av_fit {m:Nat → Option Loc} {L:Names} (q:Lnk) : Fit m L (Lnk.av q) (Lnk.av q) = True := JY (Lnk.av_closed q)
@[simp] theorem Lnk.av_fitR {m:Nat → Option Loc} {L:Names} (q:Lnk) : FitR m L (Lnk.av q) (Lnk.av q) = True := JM (Lnk.av_closed q)
@[simp] theorem Lnk.av_touch {m:Nat → Option Loc} (q:Lnk) : touch m (Lnk.av q) (Lnk.av q) = [] := JE (Lnk.av_closed q)
@[simp] theorem Lnk.av_touchR {m:Nat → Option Loc} (q:Lnk) : touchR m (Lnk.av q) (Lnk.av q) = [] := Jy (Lnk.av_closed q)
@[simp] theorem Lnk.av_stamped {U:Nat → Prop} (q:Lnk) : Stamped U (Lnk.av q) = True := Jt (Lnk.av_closed q)
@[simp] theorem Lnk.av_tup (q:Lnk) : (Lnk.av q).isTup = false := JC (Lnk.av_closed q)
@[simp] theorem Lnk.av_ref (q:Lnk) : refOf (Lnk.av q) = none := JB (Lnk.av_closed q)
@[simp] theorem Lnk.av_put (q:Lnk) (x:AV) : putAt true 103 x (Lnk.av q) 0 = some x := by simp [Lnk.av]
def Lnks (l:List Lnk) : List AV := l.map Lnk.av
@[simp] theorem J4H (l:List Lnk) : (Lnks l).length = l.length := by simp [Lnks]
@[simp] theorem J4R (l:List Lnk) : closeds (Lnks l) = true := by simp [Lnks,closeds_all]
@[simp] theorem J8G (n:Nat) (l:List Lnk) : (Lnks l)[n]? = (l[n]?).map Lnk.av := by simp [Lnks]
@[simp] theorem J2l (n:Nat) (l:List Lnk) (h:n < (Lnks l).length) : (Lnks l)[n] = Lnk.av (l[n]'(by simpa [Lnks] using h)) := by simp [Lnks]
@[simp] theorem J3f (a b:List Lnk) : Lnks a ++ Lnks b = Lnks (a ++ b) := by simp [Lnks]
@[simp] theorem J6P (n:Nat) (a:List Lnk) : (Lnks a).drop n = Lnks (a.drop n) := by simp [Lnks]
@[simp] theorem J7n (n:Nat) (a:List Lnk) : (Lnks a).take n = Lnks (a.take n) := by simp [Lnks]
@[simp] theorem J8x : Lnks [] = [] := (rfl)
theorem JTs (l:List Lnk) (a:Lnk) : Lnks l ++ [Lnk.av a] = Lnks (l ++ [a]) := by simp [Lnks]
end
section
open Go
attribute [local irreducible] sha
attribute [local irreducible] Rd.sig Rd.sig' Rd.blk Rd.blk' Rd.inn Rd.inn' Rd.dg Rd.dg' Rd.rep Rd.rep' Rd.req Rd.req' repR
structure Piece where
 at_:Int
 count:Int
 tree:Dg
 data:Bytes
 path:List Dg
def Piece.zero : Piece := ⟨0,0,Dg.zero,[],[]⟩
def pieceF : Fmt Piece := mapF (seqF (inF 0 1024) fun _=>seqF (inF 0 1024) fun _=>seqF (inF 0 16) fun n=>seqF dgF fun _=>seqF (repF (fun _=>dgF) n.toNat) fun _=>textF 1024)
 (fun x=>⟨x.1,x.2.1,x.2.2.2.1,x.2.2.2.2.2,x.2.2.2.2.1⟩) (fun p=>(p.at_,p.count,(p.path.length:Int),p.tree,p.path,p.data))
theorem Jpt : pieceF.Law := JbN (Jm (JA _ _) fun _=>Jm (JA _ _) fun _=>Jm (JA _ _) fun n=>Jm Jxe fun _=>Jm (JV5 n.toNat) fun _=>JuU _) (fun _=>rfl) (by
 rintro ⟨a,c,n,t,p,d⟩ ⟨_,_,⟨_,h0,_⟩,_,⟨h,_⟩,_⟩
 have h1:p.length = n.toNat:=h
 have h2:(0:Int) ≤ n:=h0
 have:(p.length:Int) = n:=by omega
 show (a,c,(p.length:Int),t,p,d) = (a,c,n,t,p,d)
 rw [this])
def Rd.pcN (r:Rd) : Nat := (((r.inn' 0 1024).inn' 0 1024).inn 0 16).toNat
theorem JP5 (r:Rd) : pieceF.rd' r = ((((((r.inn' 0 1024).inn' 0 1024).inn' 0 16).dg').ds' r.pcN).text' 1024) := by
 show ((repR (fun _=>dgF) ((((r.inn' 0 1024).inn' 0 1024).inn' 0 16).dg') r.pcN).2).text' 1024 = _
 rw [JNO]
theorem JN9 (r:Rd) : pieceF.rd r = ⟨r.inn 0 1024,(r.inn' 0 1024).inn 0 1024,(((r.inn' 0 1024).inn' 0 1024).inn' 0 16).dg,(((((r.inn' 0 1024).inn' 0 1024).inn' 0 16).dg').ds' r.pcN).text 1024,((((r.inn' 0 1024).inn' 0 1024).inn' 0 16).dg').ds r.pcN⟩ := by
 show (⟨r.inn 0 1024,(r.inn' 0 1024).inn 0 1024,(((r.inn' 0 1024).inn' 0 1024).inn' 0 16).dg,((repR (fun _=>dgF) ((((r.inn' 0 1024).inn' 0 1024).inn' 0 16).dg') r.pcN).2).text 1024,(repR (fun _=>dgF) ((((r.inn' 0 1024).inn' 0 1024).inn' 0 16).dg') r.pcN).1⟩:Piece) = _
 rw [JNO]
def Piece.bytes (p:Piece) : Bytes := nums [p.at_,p.count,(p.path.length:Int)] ++ (flatD (p.tree :: p.path) ++ txt p.data)
theorem JY4 (p:Piece) : pieceF.wr p = p.bytes := by
 show be8 p.at_ ++ (be8 p.count ++ (be8 (p.path.length:Int) ++ (p.tree.bs ++ (repW (fun _=>dgF) [] p.path ++ txt p.data)))) = _
 rw [JdD]
 simp [Piece.bytes,nums,flatD,dgF]
def Piece.av (p:Piece) : AV := .node [.v (.int .i64 p.at_),.v (.int .i64 p.count),dv p.tree,.v (.string (mkS p.data)),.sl 32 (Dgs p.path)]
@[simp] theorem Piece.av_closed (q:Piece) : closed (Piece.av q) = true := by simp [Piece.av]
@[simp] theorem Piece.av_solid (q:Piece) : (Piece.av q).solid = true := by simp [Piece.av]
@[simp] theorem Piece.av_agg (q:Piece) : (Piece.av q).isAgg = true := by simp [Piece.av]
@[simp] theorem Piece.av_size (q:Piece) : (Piece.av q).size = 36 := by simp [Piece.av]
@[simp] theorem Piece.av_sub (q:Piece) : sub true 36 (Piece.av q) 0 = some (Piece.av q) := by simp [Piece.av]
@[simp] theorem Piece.av_good {M:List (Nat × Loc)} (q:Piece) : goodA false M (Piece.av q) = true := JG (Piece.av_closed q)
@[simp] theorem Piece.av_pairs (q:Piece) : pairsA (Piece.av q) (Piece.av q) = [] := Jv (Piece.av_closed q)
@[simp] theorem Piece.av_ren {L:Names} {nb gn:Nat} (q:Piece) : renA L nb gn (Piece.av q) = Piece.av q := JN (Piece.av_closed q)
@[simp] theorem Piece.av_fit {m:Nat → Option Loc} {L:Names} (q:Piece) : Fit m L (Piece.av q) (Piece.av q) = True := JY (Piece.av_closed q)
@[simp] theorem Piece.av_fitR {m:Nat → Option Loc} {L:Names} (q:Piece) : FitR m L (Piece.av q) (Piece.av q) = True := JM (Piece.av_closed q)
@[simp] theorem Piece.av_touch {m:Nat → Option Loc} (q:Piece) : touch m (Piece.av q) (Piece.av q) = [] := JE (Piece.av_closed q)
@[simp] theorem Piece.av_touchR {m:Nat → Option Loc} (q:Piece) : touchR m (Piece.av q) (Piece.av q) = [] := Jy (Piece.av_closed q)
@[simp] theorem Piece.av_stamped {U:Nat → Prop} (q:Piece) : Stamped U (Piece.av q) = True := Jt (Piece.av_closed q)
@[simp] theorem Piece.av_tup (q:Piece) : (Piece.av q).isTup = false := JC (Piece.av_closed q)
@[simp] theorem Piece.av_ref (q:Piece) : refOf (Piece.av q) = none := JB (Piece.av_closed q)
@[simp] theorem Piece.av_put (q:Piece) (x:AV) : putAt true 36 x (Piece.av q) 0 = some x := by simp [Piece.av]
def Pcs (l:List Piece) : List AV := l.map Piece.av
@[simp] theorem J5e (l:List Piece) : (Pcs l).length = l.length := by simp [Pcs]
@[simp] theorem J5D (l:List Piece) : closeds (Pcs l) = true := by simp [Pcs,closeds_all]
@[simp] theorem J9k (n:Nat) (l:List Piece) : (Pcs l)[n]? = (l[n]?).map Piece.av := by simp [Pcs]
@[simp] theorem J4p (n:Nat) (l:List Piece) (h:n < (Pcs l).length) : (Pcs l)[n] = Piece.av (l[n]'(by simpa [Pcs] using h)) := by simp [Pcs]
@[simp] theorem J5R (a b:List Piece) : Pcs a ++ Pcs b = Pcs (a ++ b) := by simp [Pcs]
@[simp] theorem J8E (n:Nat) (a:List Piece) : (Pcs a).drop n = Pcs (a.drop n) := by simp [Pcs]
@[simp] theorem J8M (n:Nat) (a:List Piece) : (Pcs a).take n = Pcs (a.take n) := by simp [Pcs]
@[simp] theorem J9i : Pcs [] = [] := (rfl)
theorem JVJ (l:List Piece) (a:Piece) : Pcs l ++ [Piece.av a] = Pcs (l ++ [a]) := by simp [Pcs]
structure Mail where
 kind:Int
 plan:Plan
 vote:Vote
 req:Req
 rep:Rep
 height:Int
 blk:Blk
 cert:Cert
 links:List Lnk
 pieces:List Piece
def Mail.zero : Mail := ⟨0,Plan.zero,Vote.zero,Req.zero,Rep.zero,0,Blk.zero,Cert.zero,[],[]⟩
def Mail.av (m:Mail) : AV := .node [.v (.int .i64 m.kind),m.plan.av,m.vote.av,m.req.av,m.rep.avS,.v (.int .i64 m.height),m.blk.avS,m.cert.av,.sl 103 (Lnks m.links),.sl 36 (Pcs m.pieces)]
@[simp] theorem Mail.av_closed (q:Mail) : closed (Mail.av q) = true := by simp [Mail.av]
@[simp] theorem Mail.av_solid (q:Mail) : (Mail.av q).solid = true := by simp [Mail.av]
@[simp] theorem Mail.av_agg (q:Mail) : (Mail.av q).isAgg = true := by simp [Mail.av]
@[simp] theorem Mail.av_size (q:Mail) : (Mail.av q).size = 300 := by simp [Mail.av]
@[simp] theorem Mail.av_sub (q:Mail) : sub true 300 (Mail.av q) 0 = some (Mail.av q) := by simp [Mail.av]
@[simp] theorem Mail.av_good {M:List (Nat × Loc)} (q:Mail) : goodA false M (Mail.av q) = true := JG (Mail.av_closed q)
@[simp] theorem Mail.av_pairs (q:Mail) : pairsA (Mail.av q) (Mail.av q) = [] := Jv (Mail.av_closed q)
@[simp] theorem Mail.av_ren {L:Names} {nb gn:Nat} (q:Mail) : renA L nb gn (Mail.av q) = Mail.av q := JN (Mail.av_closed q)
@[simp] theorem Mail.av_fit {m:Nat → Option Loc} {L:Names} (q:Mail) : Fit m L (Mail.av q) (Mail.av q) = True := JY (Mail.av_closed q)
@[simp] theorem Mail.av_fitR {m:Nat → Option Loc} {L:Names} (q:Mail) : FitR m L (Mail.av q) (Mail.av q) = True := JM (Mail.av_closed q)
@[simp] theorem Mail.av_touch {m:Nat → Option Loc} (q:Mail) : touch m (Mail.av q) (Mail.av q) = [] := JE (Mail.av_closed q)
@[simp] theorem Mail.av_touchR {m:Nat → Option Loc} (q:Mail) : touchR m (Mail.av q) (Mail.av q) = [] := Jy (Mail.av_closed q)
@[simp] theorem Mail.av_stamped {U:Nat → Prop} (q:Mail) : Stamped U (Mail.av q) = True := Jt (Mail.av_closed q)
@[simp] theorem Mail.av_tup (q:Mail) : (Mail.av q).isTup = false := JC (Mail.av_closed q)
@[simp] theorem Mail.av_ref (q:Mail) : refOf (Mail.av q) = none := JB (Mail.av_closed q)
@[simp] theorem Mail.av_put (q:Mail) (x:AV) : putAt true 300 x (Mail.av q) 0 = some x := by simp [Mail.av]
def linksF : Fmt (List Lnk) := cntF 0 1024 (fun _=>linkF)
theorem JQa : linksF.Law := JAr (by omega) (fun _=>JyY)
def piecesF : Fmt (List Piece) := cntF 0 1024 (fun _=>pieceF)
theorem JVe : piecesF.Law := JAr (by omega) (fun _=>Jpt)
theorem JRR (l:List Lnk) : linksF.wr l = be8 (l.length:Int) ++ l.flatMap linkF.wr := by
 show be8 (l.length:Int) ++ repW (fun _=>linkF) [] l = _
 rw [JdD]
theorem JLo (l:List Piece) : piecesF.wr l = be8 (l.length:Int) ++ l.flatMap Piece.bytes := by
 show be8 (l.length:Int) ++ repW (fun _=>pieceF) [] l = _
 rw [JdD]
 have:pieceF.wr = Piece.bytes:=funext JY4
 rw [this]
def bodyRd' (k:Int) (r:Rd) : Rd :=
 if k = 1 then planF.rd' r else if k = 2 then voteF.rd' r else if k = 3 then r.req' else if k = 4 then (r.inn' 0 1024).rep' else if k = 5 then certF.rd' r.blk' else if k = 6 then r.inn' 1 1025 else if k = 8 then linksF.rd' r else if k = 9 then piecesF.rd' (certF.rd' r.blk') else r
def bodyRd (k:Int) (r:Rd) : Mail :=
 if k = 1 then { Mail.zero with kind:=k,plan:=planF.rd r } else if k = 2 then { Mail.zero with kind:=k,vote:=voteF.rd r } else if k = 3 then { Mail.zero with kind:=k,req:=r.req }
 else if k = 4 then { Mail.zero with kind:=k,height:=r.inn 0 1024,rep:=(r.inn' 0 1024).rep } else if k = 5 then { Mail.zero with kind:=k,blk:=r.blk,cert:=certF.rd r.blk' }
 else if k = 6 then { Mail.zero with kind:=k,height:=r.inn 1 1025 } else if k = 8 then { Mail.zero with kind:=k,links:=linksF.rd r }
 else if k = 9 then { Mail.zero with kind:=k,blk:=r.blk,cert:=certF.rd r.blk',pieces:=piecesF.rd (certF.rd' r.blk') } else { Mail.zero with kind:=k }
def Rd.mail' (r:Rd) : Rd := bodyRd' (r.inn 1 9) (r.inn' 1 9)
def Rd.mail (r:Rd) : Mail := bodyRd (r.inn 1 9) (r.inn' 1 9)
def decM (b:Bytes) : Mail := if 262144 < b.length then Mail.zero else if (Rd.of b).mail'.done = true then (Rd.of b).mail else Mail.zero
def decE (b:Bytes) : Int := if 262144 < b.length then 3 else if (Rd.of b).mail'.done = true then 0 else 4
def Mail.body (m:Mail) : Bytes :=
 if m.kind = 1 then planF.wr m.plan else if m.kind = 2 then voteF.wr m.vote else if m.kind = 3 then m.req.bytes else if m.kind = 4 then be8 m.height ++ m.rep.bytes else if m.kind = 5 then m.blk.bytes ++ m.cert.bytes
 else if m.kind = 6 then be8 m.height else if m.kind = 8 then linksF.wr m.links else if m.kind = 9 then m.blk.bytes ++ m.cert.bytes ++ piecesF.wr m.pieces else []
def Mail.ok (m:Mail) : Bool :=
 if m.kind = 1 then m.plan.sig.ok else if m.kind = 2 then m.vote.sig.ok else if m.kind = 5 then m.cert.ok else if m.kind = 8 then m.links.all (fun l=>l.cert.ok) else if m.kind = 9 then m.cert.ok else true
def Mail.bytes (m:Mail) : Bytes := be8 m.kind ++ m.body
def encE (m:Mail) : Int := if m.ok = false then 1 else if 262144 < m.bytes.length then 3 else if decE m.bytes = 0 then 0 else 1
def encB (m:Mail) : Bytes := if encE m = 0 then m.bytes else []
theorem Sig.ok_of_fits {s:Sig} (h:s.Fits) : s.ok = true := by
 obtain ⟨_,h1,h2,h3⟩:=h
 simp [Sig.ok,h1,h2,h3]
theorem JVT {v:Vote} (h:voteF.good v) : v.sig.ok = true := Sig.ok_of_fits h.2.2.2.2.2.2
theorem J1j {p:Plan} (h:planF.good p) : p.sig.ok = true := Sig.ok_of_fits h.2.2.2.2.2.2
theorem JQV {c:Cert} (h:certF.good c) : c.ok = true := by
 have h1:repG (fun _=>voteF) [] c.votes:=h.2.2.2
 rw [Jdf] at h1
 rw [Cert.ok,List.all_eq_true]
 exact fun v hv=>JVT (h1 v hv)
theorem J0E {l:Lnk} (h:linkF.good l) : l.cert.ok = true := JQV h.2.1
theorem JY9 {ls:List Lnk} (h:linksF.good ls) : (ls.all fun l=>l.cert.ok) = true := by
 have h1:repG (fun _=>linkF) [] ls:=h.2.2
 rw [Jdf] at h1
 rw [List.all_eq_true]
 exact fun l hl=>J0E (h1 l hl)
theorem JRb (k:Int) (r:Rd) (h:(bodyRd' k r).bad = false) : r.bad = false ∧ r.s = (bodyRd k r).body ++ (bodyRd' k r).s ∧ (bodyRd k r).ok = true ∧ (bodyRd k r).kind = k := by
 unfold bodyRd' at h ⊢
 unfold bodyRd
 by_cases k1:k = 1
 ·simp only [k1,if_true] at h ⊢
  obtain ⟨h1,_,h3,h4⟩:=JZW.one r h
  exact ⟨h1,by simpa [Mail.body,Mail.zero] using h3,by simpa [Mail.ok,Mail.zero] using J1j h4,trivial⟩
 simp only [k1,if_false] at h ⊢
 by_cases k2:k = 2
 ·simp only [k2,if_true] at h ⊢
  obtain ⟨h1,_,h3,h4⟩:=JJj.one r h
  exact ⟨h1,by simpa [Mail.body,Mail.zero] using h3,by simpa [Mail.ok,Mail.zero] using JVT h4,trivial⟩
 simp only [k2,if_false] at h ⊢
 by_cases k3:k = 3
 ·simp only [k3,if_true] at h ⊢
  obtain ⟨h1,_,h3,h4⟩:=JQU.one r h
  change r.s = r.req.bytes ++ (r.req').s at h3
  exact ⟨h1,by simpa [Mail.body,Mail.zero] using h3,by simp [Mail.ok,Mail.zero],trivial⟩
 simp only [k3,if_false] at h ⊢
 by_cases k4:k = 4
 ·simp only [k4,if_true] at h ⊢
  obtain ⟨h1,_,h3,h4⟩:=JLk.one _ h
  obtain ⟨g1,_,g3,g4⟩:=(JA 0 1024).one r h1
  refine ⟨g1,?_,by simp [Mail.ok,Mail.zero],trivial⟩
  change (r.inn' 0 1024).s = (r.inn' 0 1024).rep.bytes ++ ((r.inn' 0 1024).rep').s at h3
  change r.s = be8 (r.inn 0 1024) ++ (r.inn' 0 1024).s at g3
  rw [g3,h3]
  simp [Mail.body,Mail.zero]
 simp only [k4,if_false] at h ⊢
 by_cases k5:k = 5
 ·simp only [k5,if_true] at h ⊢
  obtain ⟨h1,_,h3,h4⟩:=JNW.one _ h
  obtain ⟨g1,_,g3,g4⟩:=JNu.one r h1
  refine ⟨g1,?_,by simpa [Mail.ok,Mail.zero] using JQV h4,trivial⟩
  change r.s = r.blk.bytes ++ (r.blk').s at g3
  rw [g3,h3,JQX]
  simp [Mail.body,Mail.zero]
 simp only [k5,if_false] at h ⊢
 by_cases k6:k = 6
 ·simp only [k6,if_true] at h ⊢
  obtain ⟨g1,_,g3,g4⟩:=(JA 1 1025).one r h
  refine ⟨g1,?_,by simp [Mail.ok,Mail.zero],trivial⟩
  change r.s = be8 (r.inn 1 1025) ++ (r.inn' 1 1025).s at g3
  simpa [Mail.body,Mail.zero] using g3
 simp only [k6,if_false] at h ⊢
 by_cases k8:k = 8
 ·simp only [k8,if_true] at h ⊢
  obtain ⟨h1,_,h3,h4⟩:=JQa.one r h
  exact ⟨h1,by simpa [Mail.body,Mail.zero] using h3,by simpa [Mail.ok,Mail.zero] using JY9 h4,trivial⟩
 simp only [k8,if_false] at h ⊢
 by_cases k9:k = 9
 ·simp only [k9,if_true] at h ⊢
  obtain ⟨f1,_,f3,f4⟩:=JVe.one _ h
  obtain ⟨h1,_,h3,h4⟩:=JNW.one _ f1
  obtain ⟨g1,_,g3,g4⟩:=JNu.one r h1
  refine ⟨g1,?_,by simpa [Mail.ok,Mail.zero] using JQV h4,trivial⟩
  change r.s = r.blk.bytes ++ (r.blk').s at g3
  rw [g3,h3,f3,JQX]
  simp [Mail.body,Mail.zero]
 simp only [k9,if_false] at h ⊢
 exact ⟨h,by simp [Mail.body,k1,k2,k3,k4,k5,k6,k8,k9],by simp [Mail.ok,k1,k2,k5,k8,k9],trivial⟩
theorem JVX (b:Bytes) (h:decE b = 0) : (decM b).bytes = b ∧ (decM b).ok = true ∧ W64 (decM b).kind := by
 unfold decE at h
 split at h
 ·cases h
 rename_i hl
 split at h
 case isFalse=>cases h
 rename_i hd
 have e:decM b = (Rd.of b).mail:=by unfold decM; rw [if_neg hl,if_pos hd]
 rw [e]
 simp only [Rd.done,Bool.and_eq_true,Bool.not_eq_true',decide_eq_true_eq] at hd
 obtain ⟨h1,h2,h3,h4⟩:=JRb _ _ hd.1
 obtain ⟨g1,_,g3,g4⟩:=(JA 1 9).one (Rd.of b) h1
 have hk:(Rd.of b).mail.kind = (Rd.of b).inn 1 9:=h4
 refine ⟨?_,h3,by rw [hk]; exact g4.1⟩
 have hs:(bodyRd' ((Rd.of b).inn 1 9) ((Rd.of b).inn' 1 9)).s = []:=hd.2
 rw [hs,List.append_nil] at h2
 change b = be8 ((Rd.of b).inn 1 9) ++ ((Rd.of b).inn' 1 9).s at g3
 unfold Mail.bytes
 rw [hk]
 rw [h2] at g3
 exact g3.symm
theorem JOB {m:Mail} (h:encE m = 0) : m.ok = true ∧ m.bytes.length ≤ 262144 ∧ decE m.bytes = 0 := by
 unfold encE at h
 split at h
 ·cases h
 rename_i h1
 split at h
 ·cases h
 rename_i h2
 split at h
 ·rename_i h3
  exact ⟨by simpa using h1,by omega,h3⟩
 ·cases h
theorem JUP {m:Mail} (h1:m.ok = true) (h3:decE m.bytes = 0) : encE m = 0 := by
 have h2:¬ 262144 < m.bytes.length:=by
  intro h
  unfold decE at h3
  rw [if_pos h] at h3
  cases h3
 unfold encE
 rw [if_neg (by simp [h1]),if_neg h2,if_pos h3]
theorem JTS (m:Mail) (hk:W64 m.kind) (h:encE m = 0) : decE (encB m) = 0 ∧ encE (decM (encB m)) = 0 ∧ encB (decM (encB m)) = encB m ∧ (decM (encB m)).kind = m.kind := by
 obtain ⟨h1,h2,h3⟩:=JOB h
 have e:encB m = m.bytes:=by unfold encB; rw [if_pos h]
 rw [e]
 obtain ⟨g1,g2,g3⟩:=JVX m.bytes h3
 have g4:encE (decM m.bytes) = 0:=JUP g2 (by rw [g1]; exact h3)
 refine ⟨h3,g4,?_,?_⟩
 ·unfold encB; rw [if_pos g4]; exact g1
 ·have:be8 (decM m.bytes).kind ++ (decM m.bytes).body = be8 m.kind ++ m.body:=g1
  exact (Jbt g3 hk this).1
end
section
open Go
attribute [local irreducible] comp
def rem (d:Bytes) : Bytes := d.drop (64 * (d.length / 64))
theorem JjS (d:Bytes) : (rem d).length = d.length % 64 := by
 simp only [rem,List.length_drop]
 omega
theorem J39 (n:Nat) (b:Bytes) : hb (n + 1) b = comp (hb n b) ((b.drop (64 * n)).take 64) := rfl
theorem J3R (d x:Bytes) (h:(rem d).length + x.length < 64) : (d ++ x).length / 64 = d.length / 64 ∧ rem (d ++ x) = rem d ++ x ∧ hb ((d ++ x).length / 64) (d ++ x) = hb (d.length / 64) d := by
 rw [JjS] at h
 have h1:(d ++ x).length / 64 = d.length / 64:=by rw [List.length_append]; omega
 refine ⟨h1,?_,?_⟩
 ·rw [rem,h1,List.drop_append_of_le_length (by omega)]
  rfl
 ·rw [h1]
  exact JRP _ _ _ (by omega)
theorem JQ5 (d x:Bytes) (h:(rem d).length + x.length = 64) : (d ++ x).length / 64 = d.length / 64 + 1 ∧ rem (d ++ x) = [] ∧ hb ((d ++ x).length / 64) (d ++ x) = comp (hb (d.length / 64) d) (rem d ++ x) := by
 have h0:=h
 rw [JjS] at h
 have hx:0 < x.length:=by omega
 have h1:(d ++ x).length / 64 = d.length / 64 + 1:=by rw [List.length_append]; omega
 refine ⟨h1,?_,?_⟩
 ·rw [rem,h1,List.drop_of_length_le (by rw [List.length_append]; omega)]
 ·rw [h1,J39,JRP _ _ _ (by omega),List.drop_append_of_le_length (by omega)]
  congr 1
  show (rem d ++ x).take 64 = _
  exact List.take_of_length_le (by rw [List.length_append]; omega)
theorem JXM (n:Nat) (h:n % 64 < 56) : fillN n = 55 - n % 64 := by unfold fillN; omega
theorem JXB (n:Nat) (h:56 ≤ n % 64) : fillN n = 119 - n % 64 := by unfold fillN; omega
theorem J0r (d:Bytes) (h:d.length % 64 < 56) : (sha d).bs = (comp (hb (d.length / 64) d) (rem d ++ 128 :: (zeros (55 - d.length % 64) ++ be8 (8 * d.length:Nat)))).bytes := by
 show (hb ((pad d).length / 64) (pad d)).bytes = _
 have hl:=JjS d
 have e:pad d = d ++ (128 :: (zeros (55 - d.length % 64) ++ be8 (8 * d.length:Nat))):=by rw [pad,JXM _ h]
 obtain ⟨_,_,h3⟩:=JQ5 d (128 :: (zeros (55 - d.length % 64) ++ be8 (8 * d.length:Nat))) (by simp only [List.length_cons,List.length_append,JyO,J3]; omega)
 rw [e,h3]
theorem JZL (d:Bytes) (h:56 ≤ d.length % 64) : (sha d).bs = (comp (comp (hb (d.length / 64) d) (rem d ++ 128 :: zeros (63 - d.length % 64))) (zeros 56 ++ be8 (8 * d.length:Nat))).bytes := by
 show (hb ((pad d).length / 64) (pad d)).bytes = _
 have hl:=JjS d
 have hlt:d.length % 64 < 64:=Nat.mod_lt _ (by decide)
 have e:pad d = (d ++ 128 :: zeros (63 - d.length % 64)) ++ (zeros 56 ++ be8 (8 * d.length:Nat)):=by
  rw [pad,JXB _ h,show 119 - d.length % 64 = (63 - d.length % 64) + 56 by omega]
  simp only [zeros,← List.replicate_append_replicate,List.append_assoc,List.cons_append]
 obtain ⟨h1,h2,h3⟩:=JQ5 d (128 :: zeros (63 - d.length % 64)) (by simp only [List.length_cons,JyO]; omega)
 obtain ⟨_,_,k3⟩:=JQ5 (d ++ 128 :: zeros (63 - d.length % 64)) (zeros 56 ++ be8 (8 * d.length:Nat)) (by rw [h2]; simp)
 rw [e,k3,h2,h3,List.nil_append]
end
section
open Go
def sumAt (s:Int → Nat) (vis:List Int) : Nat := (vis.map s).sum
theorem JXU (s:Int → Nat) {a b:List Int} (h:a.Perm b) : sumAt s a = sumAt s b := by
 unfold sumAt
 exact (h.map s).sum_nat
structure Vis (dom vis:List Int) : Prop where
 nd:vis.Nodup
 sub:∀ i ∈ vis,i ∈ dom
theorem Vis.nil (dom:List Int) : Vis dom [] := ⟨List.nodup_nil,fun _ h=>by cases h⟩
theorem Vis.snoc {dom vis:List Int} {i:Int} (h:Vis dom vis) (hi:i ∈ dom) (hn:i ∉ vis) : Vis dom (vis ++ [i]) := by
 refine ⟨List.nodup_append.2 ⟨h.nd,by simp,fun a ha b hb=>?_⟩,fun j hj=>?_⟩
 ·rw [List.mem_singleton.1 hb]
  rintro rfl
  exact hn ha
 ·rcases List.mem_append.1 hj with hj | hj
  ·exact h.sub j hj
  ·rw [List.mem_singleton.1 hj]; exact hi
theorem Vis.erase : ∀ {vis dom:List Int},Vis dom vis → ∃ rest,dom.Perm (vis ++ rest)
 | [],dom,_=>⟨dom,List.Perm.refl _⟩
 | a :: vis,dom,h=>by
   have hnd:=List.nodup_cons.1 h.nd
   have ha:=h.sub a List.mem_cons_self
   have hv:Vis (dom.erase a) vis:=⟨hnd.2,fun i hi=>by
    have hne:i ≠ a:=fun e=>hnd.1 (e ▸ hi)
    exact (List.mem_erase_of_ne hne).2 (h.sub i (List.mem_cons_of_mem _ hi))⟩
   obtain ⟨rest,hr⟩:=hv.erase
   exact ⟨rest,(List.perm_cons_erase ha).trans (List.Perm.cons a hr)⟩
theorem Vis.len {dom vis:List Int} (h:Vis dom vis) : vis.length ≤ dom.length := by
 obtain ⟨rest,hr⟩:=h.erase
 have:=hr.length_eq
 rw [List.length_append] at this
 omega
theorem Vis.lt {dom vis:List Int} {i:Int} (h:Vis dom vis) (hi:i ∈ dom) (hn:i ∉ vis) : vis.length < dom.length := by
 have:=(h.snoc hi hn).len
 rw [List.length_append] at this
 simp at this
 omega
theorem Vis.sum {dom vis:List Int} (h:Vis dom vis) (s:Int → Nat) : sumAt s vis ≤ sumAt s dom := by
 obtain ⟨rest,hr⟩:=h.erase
 rw [JXU s hr]
 unfold sumAt
 rw [List.map_append,List.sum_append]
 omega
theorem Vis.all {dom vis:List Int} (h:Vis dom vis) (hd:dom.Nodup) (ha:∀ i ∈ dom,i ∈ vis) : vis.Perm dom := (List.perm_ext_iff_of_nodup h.nd hd).2 fun i => ⟨h.sub i,ha i⟩
end
section
open Go
abbrev Ty.dgs : Ty := .sl 32 32 Ty.dg
abbrev Ty.sig : Ty := .st [.int .i64,.st [Ty.dgs,Ty.dgs],Ty.dgs]
structure KeyD where
 root:Dg
 height:Int
def KeyD.av (k:KeyD) : AV := .node [dv k.root,.v (.int .i64 k.height)]
abbrev Ty.key : Ty := .st [Ty.dg,.int .i64]
end
section
open Go
abbrev Ty.chg : Ty := .st [.int .i64,.int .i64,.int .i64,.st [Ty.dg,.int .i64]]
abbrev Ty.req : Ty := .st [.int .i64,.int .i64,.st [.int .i64,.str,.str,.str,Ty.chg]]
theorem J7t {a:AV} (h:TyOk Ty.chg a) : ∃ c : Chg,a = c.av ∧ W64 c.kind ∧ W64 c.id ∧ W64 c.new ∧ W64 c.height := by
 obtain ⟨a1,a2,a3,a4,rfl,h1,h2,h3,h4⟩:=J2G h
 obtain ⟨n1,rfl,w1⟩:=Jll h1
 obtain ⟨n2,rfl,w2⟩:=Jll h2
 obtain ⟨n3,rfl,w3⟩:=Jll h3
 obtain ⟨b1,b2,rfl,g1,g2⟩:=JVK h4
 obtain ⟨d,rfl⟩:=ty_dg g1
 obtain ⟨n4,rfl,w4⟩:=Jll g2
 exact ⟨⟨n1,n2,n3,d,n4⟩,rfl,w1,w2,w3,w4⟩
structure Req.In (q:Req) : Prop where
 client:W64 q.client
 num:W64 q.num
 kind:W64 q.kind
 ckind:W64 q.ch.kind
 cid:W64 q.ch.id
 cnew:W64 q.ch.new
 cheight:W64 q.ch.height
 key:q.key.length ≤ reachBytes
 val:q.val.length ≤ reachBytes
 old:q.old.length ≤ reachBytes
abbrev Ty.rep : Ty := .st [.int .i64,.int .i64,.int .i64,.sl 1 16 .str]
theorem J28 {a:AV} (h:TyOk Ty.rep a) : ∃ q : Rep,a = q.avS ∧ (W64 q.client ∧ W64 q.num ∧ W64 q.code) ∧ ∀ v ∈ q.vals,v.length ≤ reachBytes := by
 obtain ⟨a1,a2,a3,a4,rfl,h1,h2,h3,h4⟩:=J2G h
 obtain ⟨n1,rfl,w1⟩:=Jll h1
 obtain ⟨n2,rfl,w2⟩:=Jll h2
 obtain ⟨n3,rfl,w3⟩:=Jll h3
 obtain ⟨ss,rfl,hs⟩:=J3J h4
 exact ⟨⟨n1,n2,n3,ss⟩,rfl,⟨w1,w2,w3⟩,hs.2⟩
end
section
open Go
abbrev Ty.blk : Ty := .st [.int .i64,.int .i64,Ty.dg,Ty.dg,Ty.dg,.sl 42 136 Ty.req]
structure Blk.In (b:Blk) : Prop where
 epoch:W64 b.epoch
 height:W64 b.height
 len:b.qs.length * 136 ≤ reachBytes
 qs:∀ q ∈ b.qs,q.In
theorem Blk.In.texts {b:Blk} (h:b.In) : ∀ q ∈ b.qs,q.key.length ≤ reachBytes ∧ q.val.length ≤ reachBytes ∧ q.old.length ≤ reachBytes :=
 fun q hq=>⟨(h.qs q hq).key,(h.qs q hq).val,(h.qs q hq).old⟩
end
section
open Go
theorem JUB {α:Type} {e:Ty} {sz bytes:Nat} {f:α → AV} {p:α → Prop} (he:∀ a,TyOk e a → ∃ x,a = f x ∧ p x) {a:AV} (h:TyOk (.sl sz bytes e) a) : ∃ xs : List α,a = .sl sz (xs.map f) ∧ xs.length * bytes ≤ reachBytes ∧ ∀ x ∈ xs,p x := by
 obtain ⟨xs,rfl,⟨_,h1⟩,h2⟩:=ty_sl h
 obtain ⟨ns,rfl,h3⟩:=map_of_all (f:=f) (p:=p) fun x hx=>he x (h2 x hx)
 exact ⟨ns,rfl,by simpa using h1,h3⟩
abbrev Ty.vote : Ty := .st [.int .i64,.int .i64,.int .i64,.int .i64,Ty.dg,.int .i64,Ty.sig]
structure Vote.In (v:Vote) : Prop where
 kind:W64 v.kind
 epoch:W64 v.epoch
 height:W64 v.height
 round:W64 v.round
 src:W64 v.src
 leaf:W64 v.sig.leaf
abbrev Ty.plan : Ty := .st [.int .i64,.int .i64,.int .i64,.int .i64,Ty.blk,.int .i64,Ty.sig]
structure Plan.In (p:Plan) : Prop where
 epoch:W64 p.epoch
 height:W64 p.height
 round:W64 p.round
 valid:W64 p.valid
 blk:p.blk.In
 src:W64 p.src
 leaf:W64 p.sig.leaf
abbrev Ty.mem : Ty := .st [.int .i64,.st [Ty.dg,.int .i64]]
def Mem.In (m:Mem) : Prop := W64 m.id ∧ W64 m.height
theorem J6H {a:AV} (h:TyOk Ty.mem a) : ∃ m : Mem,a = m.av ∧ m.In := by
 obtain ⟨a1,a2,rfl,h1,h2⟩:=JVK h
 obtain ⟨n,rfl,w1⟩:=Jll h1
 obtain ⟨b1,b2,rfl,g1,g2⟩:=JVK h2
 obtain ⟨d,rfl⟩:=ty_dg g1
 obtain ⟨k,rfl,w2⟩:=Jll g2
 exact ⟨⟨n,d,k⟩,rfl,w1,w2⟩
abbrev Ty.conf : Ty := .st [.int .i64,.sl 34 48 Ty.mem]
structure Conf.In (c:Conf) : Prop where
 epoch:W64 c.epoch
 len:c.ms.length * 48 ≤ reachBytes
 ms:∀ m ∈ c.ms,m.In
theorem J3n {a:AV} (h:TyOk Ty.conf a) : ∃ c : Conf,a = c.av ∧ c.In := by
 obtain ⟨a1,a2,rfl,h1,h2⟩:=JVK h
 obtain ⟨n,rfl,w1⟩:=Jll h1
 obtain ⟨ms,rfl,l,hm⟩:=JUB (fun _=>J6H) h2
 exact ⟨⟨n,ms⟩,rfl,w1,l,hm⟩
abbrev Ty.cert : Ty := .st [.int .i64,.sl 41 152 Ty.vote]
structure Cert.In (c:Cert) : Prop where
 round:W64 c.round
 len:c.votes.length * 152 ≤ reachBytes
 votes:∀ v ∈ c.votes,v.In
abbrev Ty.link : Ty := .st [Ty.blk,Ty.cert,Ty.conf]
structure Lnk.In (l:Lnk) : Prop where
 blk:l.blk.In
 cert:l.cert.In
 conf:l.conf.In
abbrev Ty.piece : Ty := .st [.int .i64,.int .i64,Ty.dg,.str,Ty.dgs]
structure Piece.In (p:Piece) : Prop where
 at_:W64 p.at_
 count:W64 p.count
 data:p.data.length ≤ reachBytes
 path:p.path.length ≤ reachBytes
abbrev Ty.mail : Ty := .st [.int .i64,Ty.plan,Ty.vote,Ty.req,Ty.rep,.int .i64,Ty.blk,Ty.cert,.sl 103 200 Ty.link,.sl 36 88 Ty.piece]
structure Mail.In (m:Mail) : Prop where
 kind:W64 m.kind
 plan:m.plan.In
 vote:m.vote.In
 req:m.req.In
 rep:(W64 m.rep.client ∧ W64 m.rep.num ∧ W64 m.rep.code) ∧ ∀ v ∈ m.rep.vals,v.length ≤ reachBytes
 height:W64 m.height
 blk:m.blk.In
 cert:m.cert.In
 linksn:m.links.length * 200 ≤ reachBytes
 links:∀ l ∈ m.links,l.In
 piecesn:m.pieces.length * 88 ≤ reachBytes
 pieces:∀ p ∈ m.pieces,p.In
end
section
open Go
def opA (q:Req) : AV := .node [.v (.int .i64 q.kind),.v (.string (mkS q.key)),.v (.string (mkS q.val)),.v (.string (mkS q.old)),q.ch.av]
structure Cal where
 kind:Int
 op:Req
 src:Int
 frame:Bytes
 n:Int
 a:Rep
def Cal.av (c:Cal) : AV := .node [.v (.int .i64 c.kind),opA c.op,.v (.int .i64 c.src),.v (.string (mkS c.frame)),.v (.int .i64 c.n),c.a.avS]
abbrev Ty.op : Ty := .st [.int .i64,.str,.str,.str,Ty.chg]
theorem ty_op {a:AV} (h:TyOk Ty.op a) : ∃ q : Req,a = opA q ∧ q.In := by
 obtain ⟨b1,b2,b3,b4,b5,rfl,g1,g2,g3,g4,g5⟩:=J57 h
 obtain ⟨n3,rfl,w3⟩:=Jll g1
 obtain ⟨s1,rfl,l1⟩:=JTP g2
 obtain ⟨s2,rfl,l2⟩:=JTP g3
 obtain ⟨s3,rfl,l3⟩:=JTP g4
 obtain ⟨c,rfl,x1,x2,x3,x4⟩:=J7t g5
 exact ⟨⟨0,0,n3,s1,s2,s3,c⟩,rfl,by simp [W64],by simp [W64],w3,x1,x2,x3,x4,l1,l2,l3⟩
structure Rep.In (a:Rep) : Prop where
 client:W64 a.client
 num:W64 a.num
 code:W64 a.code
 vals:∀ v ∈ a.vals,v.length ≤ reachBytes
abbrev Ty.cal : Ty := .st [.int .i64,Ty.op,.int .i64,.str,.int .i64,Ty.rep]
structure Cal.In (c:Cal) : Prop where
 kind:W64 c.kind
 op:c.op.In
 src:W64 c.src
 frame:c.frame.length ≤ reachBytes
 n:W64 c.n
 a:c.a.In
theorem J7d {a:AV} (h:TyOk Ty.cal a) : ∃ c : Cal,a = c.av ∧ c.In := by
 obtain ⟨a1,a2,a3,a4,a5,a6,rfl,h1,h2,h3,h4,h5,h6⟩:=J6S h
 obtain ⟨n1,rfl,w1⟩:=Jll h1
 obtain ⟨q,rfl,w2⟩:=ty_op h2
 obtain ⟨n3,rfl,w3⟩:=Jll h3
 obtain ⟨s,rfl,w4⟩:=JTP h4
 obtain ⟨n5,rfl,w5⟩:=Jll h5
 obtain ⟨r,rfl,⟨k1,k2,k3⟩,k4⟩:=J28 h6
 exact ⟨⟨n1,q,n3,s,n5,r⟩,rfl,w1,w2,w3,w4,w5,k1,k2,k3,k4⟩
theorem J3c {a:AV} (h:TyOk (.sl 48 208 Ty.cal) a) : ∃ cs : List Cal,a = .sl 48 (cs.map Cal.av) ∧ cs.length * 208 ≤ reachBytes ∧ ∀ c ∈ cs,c.In := JUB (fun _=>J7d) h
theorem J3r {a:AV} (h:TyOk (.sl 4 48 Ty.rep) a) : ∃ cs : List Rep,a = .sl 4 (cs.map Rep.avS) ∧ cs.length * 48 ≤ reachBytes ∧ ∀ c ∈ cs,c.In := JUB (fun b hb=>by
 obtain ⟨q,h1,⟨k1,k2,k3⟩,k4⟩:=J28 hb
 exact ⟨q,h1,k1,k2,k3,k4⟩) h
end
section
open Go
def Bools (ps:List Bool) : List AV := ps.map fun p => .v (.bool p)
@[simp] theorem J2D (ps:List Bool) : (Bools ps).length = ps.length := by simp [Bools]
@[simp] theorem JvT (ps:List Bool) : closeds (Bools ps) = true := closeds_all.2 fun a h => by
 obtain ⟨b,_,rfl⟩:=List.mem_map.1 h
 rfl
@[simp] theorem Jpm (n:Nat) (a:List Bool) : (Bools a)[n]? = (a[n]?).map fun p => .v (.bool p) := by simp [Bools]
@[simp] theorem J1A (n:Nat) (a:List Bool) (h:n < (Bools a).length) : (Bools a)[n] = .v (.bool (a[n]'(by simpa using h))) := by simp [Bools]
def tot (ts:List Bytes) : Nat := (ts.map List.length).sum
theorem J06 (ts:List Bytes) (j:Nat) (h:j < ts.length) : tot (ts.take (j + 1)) = tot (ts.take j) + ts[j].length := by
 unfold tot
 rw [List.take_add_one,List.getElem?_eq_getElem h,List.map_append,List.sum_append]
 rfl
theorem J7B (ts:List Bytes) (j:Nat) : tot (ts.take j) ≤ tot ts := by
 have h:tot ts = tot (ts.take j) + tot (ts.drop j):=by
  unfold tot
  rw [← List.sum_append,← List.map_append,List.take_append_drop]
 omega
end
end Go.Proofs.YtlajjoekbcjfnaaGreatDoor.WL
