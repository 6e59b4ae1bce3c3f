import Derived.Test.YtlajjoekbcjfnaaGreatDoorWm12
import Derived.Lib.SliceRun
namespace Go.Proofs.YtlajjoekbcjfnaaGreatDoor.WL
set_option linter.all false
section
open Go
set_option maxHeartbeats 8000000
variable {G:Nat → Option AV}
attribute [local irreducible] sha comp hb checkK idxOf Vote.signs Vote.good rightV Conf.good Blk.good Blk.dg quorum
instance : Inhabited Vote := ⟨Vote.zero⟩
def lastSrc (vs:List Vote) : Nat → Int
 | 0=>0
 | j + 1=>(vs[j]!).src
def voteOk (c:Conf) (b:Blk) (x:Cert) (j:Nat) : Bool :=
 decide (lastSrc x.votes j < (x.votes[j]!).src) && decide ((x.votes[j]!).kind = 2) && decide ((x.votes[j]!).height = b.height) && decide ((x.votes[j]!).round = x.round) && decide ((x.votes[j]!).dg = b.dg) && rightV c (x.votes[j]!)
def checkC (c:Conf) (b:Blk) (x:Cert) : Bool :=
 c.good && b.good && decide (b.epoch = c.epoch) && decide (quorum c.ms.length ≤ x.votes.length) && (List.range x.votes.length).all (voteOk c b x)
theorem JYL {c:Conf} {b:Blk} {x:Cert} {j:Nat} (h:j < x.votes.length) (hb:voteOk c b x j = false) : checkC c b x = false := by
 have:(List.range x.votes.length).all (voteOk c b x) = false:=by
  rw [List.all_eq_false]
  exact ⟨j,List.mem_range.2 h,by simp [hb]⟩
 simp [checkC,this]
theorem JXH {c:Conf} {b:Blk} {x:Cert} (h1:c.good = true) (h2:b.good = true) (h3:b.epoch = c.epoch) (h4:quorum c.ms.length ≤ x.votes.length) (h:∀ j,j < x.votes.length → voteOk c b x j = true) : checkC c b x = true := by
 have:(List.range x.votes.length).all (voteOk c b x) = true:=List.all_eq_true.2 fun j hj=>h j (List.mem_range.1 hj)
 simp [checkC,this,h1,h2,h3,h4]
theorem Conf.good_ne {c:Conf} (h:c.good = true) : c.ms ≠ [] := by
 intro e
 simp [Conf.good,e] at h
theorem JSo (c:Conf) (b:Blk) (x:Cert) (hn:c.ms.length ≤ 1000000) (hm:∀ m ∈ c.ms,W64 m.height) (hv:∀ v ∈ x.votes,W64 v.sig.leaf) (hl:x.votes.length ≤ 1000000) (hb:b.bytes.length ≤ 50000000) (hq:b.qs.length ≤ 1000000) :
 Meets Tryz.prog Gt JpW [c.av,b.avS,x.av] [] true (.v (.bool (checkC c b x))) []:=by
 refine Jc mix JS1 ⟨by simp,by simp,by simp⟩ ?_
 have m1:=JpS (G:=Gt) c
 have m2:=JT3 (G:=Gt) b
 have m3:=JQm (G:=Gt) c hn
 have m4:=JQp b hb hq
 cases h1:c.good
 ·rw [h1] at m1
  simp [Conf.av,Blk.avS,Cert.av,dv]
  refine Ja m1 ?_ ?_
  ·simp [Conf.av,dv]
  simp
  refine Jb (.inr rfl) ?_
  simp [checkC,h1]
 cases h2:b.good
 ·rw [h1] at m1
  rw [h2] at m2
  simp [Conf.av,Blk.avS,Cert.av,dv]
  refine Ja m1 ?_ ?_
  ·simp [Conf.av,dv]
  simp
  refine Ja m2 ?_ ?_
  ·simp [Blk.avS,dv]
  simp
  refine Jb (.inr rfl) ?_
  simp [checkC,h2]
 by_cases h3:b.epoch = c.epoch
 case neg =>
  rw [h1] at m1
  rw [h2] at m2
  simp [Conf.av,Blk.avS,Cert.av,dv]
  refine Ja m1 ?_ ?_
  ·simp [Conf.av,dv]
  simp
  refine Ja m2 ?_ ?_
  ·simp [Blk.avS,dv]
  simp [h3]
  refine Jb (.inr rfl) ?_
  simp [checkC,h3]
 have h3':=eq_true h3
 by_cases h4:quorum c.ms.length ≤ x.votes.length
 case neg =>
  have h4':x.votes.length < quorum c.ms.length:=by omega
  rw [h1] at m1
  rw [h2] at m2
  simp [Conf.av,Blk.avS,Cert.av,dv]
  refine Ja m1 ?_ ?_
  ·simp [Conf.av,dv]
  simp
  refine Ja m2 ?_ ?_
  ·simp [Blk.avS,dv]
  simp [h3']
  refine Ja m3 ?_ ?_
  ·simp [Conf.av,dv]
  simp [h4']
  refine Jb (.inr rfl) ?_
  simp [checkC,h4]
 have hno:=@JYL c b x
 have hyes:=JXH h1 h2 h3 h4
 have hvo:∀ j,voteOk c b x j = (decide (lastSrc x.votes j < (x.votes[j]!).src) && decide ((x.votes[j]!).kind = 2) && decide ((x.votes[j]!).height = b.height) && decide ((x.votes[j]!).round = x.round) && decide ((x.votes[j]!).dg = b.dg) && rightV c (x.votes[j]!)):=fun _=>rfl
 have hms:=Conf.good_ne h1
 have m5:∀ v ∈ x.votes,Meets Tryz.prog Gt JjJ [c.av,v.av] [] true (.v (.bool (rightV c v))) []:=fun v hv'=>JRn c v hms hm (hv v hv')
 have h4':¬ x.votes.length < quorum c.ms.length:=by omega
 rw [h1] at m1
 rw [h2] at m2
 generalize checkC c b x = res at *
 obtain ⟨ok,hok⟩:∃ ok:Nat → Bool,ok = voteOk c b x:=⟨_,rfl⟩
 rw [← hok] at hno hyes hvo
 generalize b.dg = d at *
 generalize quorum c.ms.length = qn at *
 obtain ⟨R,hR⟩:∃ R:Vote → Bool,R = rightV c:=⟨_,rfl⟩
 rw [← hR] at hvo m5
 simp [Conf.av,Blk.avS,Cert.av,dv]
 refine Ja m1 ?_ ?_
 ·simp [Conf.av,dv]
 simp
 refine Ja m2 ?_ ?_
 ·simp [Blk.avS,dv]
 simp [h3']
 refine Ja m3 ?_ ?_
 ·simp [Conf.av,dv]
 simp [h4',h4]
 refine Ja m4 ?_ ?_
 ·simp [Blk.avS,dv]
 simp [dv]
 refine go_up x.votes.length (fun j (_:Unit)=>∀ i,i < j → ok i = true) (fun j (_:Unit) q=>⟨[(3,.ptr 3 q 0),(4,.ptr 4 q 0),(5,.ptr 5 q 0),(7,.ptr 7 q 0),(8,.v (.int .i64 (lastSrc x.votes j))),(37,.sl 41 (Votes x.votes)),(38,.v (.int .i64 (x.votes.length:Nat))),(39,.v (.int .i64 (j:Nat)))],
  [(3,.var q (.node [.v (.int .i64 c.epoch),.sl 34 (Mems c.ms)])),(4,.var q (.node [.v (.int .i64 b.epoch),.v (.int .i64 b.height),.arr 1 (B b.prev.bs),.arr 1 (B b.state.bs),.arr 1 (B b.next.bs),.sl 42 (Reqs b.qs)])),(5,.var q (.node [.v (.int .i64 x.round),.sl 41 (Votes x.votes)])),(7,.var q (.arr 1 (B d.bs)))],q + 1⟩) () _ (Weak.re (by simp [lastSrc])) (by intro i h; omega) ?_ ?_
 ·intro j _ q hj hx
  have hw:IntKind.i64.wrap ((j:Int) + 1) = ((j + 1:Nat):Int):=Jf (by omega)
  obtain ⟨v,hv'⟩:∃ v,x.votes[j] = v:=⟨_,rfl⟩
  have hvb:x.votes[j]! = v:=by simp [hj,hv']
  have e:=hvo j
  rw [hvb] at e
  have m6:=m5 v (by rw [← hv']; exact List.getElem_mem hj)
  have hf:ok j = false → res = false:=hno hj
  have hls:lastSrc x.votes (j+1) = v.src:=by simp [lastSrc,hvb]
  generalize lastSrc x.votes j = ls at *
  have hnext:ok j = true → ∀ i,i < j + 1 → ok i = true:=by
   intro h i hi
   rcases (show i < j ∨ i = j by omega) with h1 | rfl
   ·exact hx i h1
   ·exact h
  by_cases c1:v.src ≤ ls
  ·have hr:=hf (by rw [e]; simp; omega)
   simp [hj,hv',Vote.av,dv,c1]
   refine Jb (.inr rfl) ?_
   simp [hr]
  by_cases c2:v.kind = 2
  case neg =>
   have hr:=hf (by rw [e]; simp [c2])
   simp [hj,hv',Vote.av,dv,c1,c2]
   refine Jb (.inr rfl) ?_
   simp [hr]
  by_cases c3:v.height = b.height
  case neg =>
   have hr:=hf (by rw [e]; simp [c3])
   simp [hj,hv',Vote.av,dv,c1,eq_true c2,c3]
   refine Jb (.inr rfl) ?_
   simp [hr]
  by_cases c4:v.round = x.round
  case neg =>
   have hr:=hf (by rw [e]; simp [c4])
   simp [hj,hv',Vote.av,dv,c1,eq_true c2,eq_true c3,c4]
   refine Jb (.inr rfl) ?_
   simp [hr]
  by_cases c5:v.dg = d
  case neg =>
   have hr:=hf (by rw [e]; simp [c5])
   simp [hj,hv',Vote.av,dv,c1,eq_true c2,eq_true c3,eq_true c4,c5]
   refine Jb (.inr rfl) ?_
   simp [hr]
  simp [hj,hv',Vote.av,dv,c1,eq_true c2,eq_true c3,eq_true c4,eq_true c5]
  refine Ja m6 ?_ ?_
  ·simp [Conf.av,Vote.av,dv]
  simp
  cases hb':R v
  ·have hr:=hf (by rw [e]; simp [hb'])
   simp
   refine Jb (.inr rfl) ?_
   simp [hr]
  ·have hok':ok j = true:=by
    rw [e,hb']
    simp [c2,c3,c4,c5]
    omega
   simp [hw]
   exact ⟨(),_,Weak.re (by simp [hls]),hnext hok'⟩
 ·intro _ q hx
  have hr:=hyes hx
  simp
  refine Jb (.inr rfl) ?_
  simp [hr]
end
section
open Go
set_option maxHeartbeats 8000000
variable {G:Nat → Option AV}
def stepK (c:Conf) (h:Int) (l:Lnk) : Int :=
 if l.blk.height ≤ h ∨ l.conf.good = false ∨ l.conf.epoch ≤ c.epoch then 12
 else if checkC c l.blk l.cert = false then 10
 else if l.conf.dg = l.blk.next then 0 else 13
structure Lnk.Tame (c:Conf) (l:Lnk) : Prop where
 cms:c.ms.length ≤ 1000
 lms:l.conf.ms.length ≤ 1000
 heights:∀ m ∈ c.ms,W64 m.height
 leaves:∀ v ∈ l.cert.votes,W64 v.sig.leaf
 votes:l.cert.votes.length ≤ 1000000
 bytes:l.blk.bytes.length ≤ 40000000
 qs:l.blk.qs.length ≤ 1000000
attribute [local irreducible] sha comp hb checkK idxOf Vote.signs Vote.good rightV Conf.good Blk.good Blk.dg quorum checkC Conf.dg
theorem JX1 (c:Conf) (h:Int) (l:Lnk) (ht:l.Tame c) : Meets Tryz.prog Gt JpV [c.av,.v (.int .i64 h),l.av] [] true (.v (.int .i64 (stepK c h l))) [] := by
 refine Jc mix JRA ⟨by simp,by simp,by simp⟩ ?_
 have m1:=JpS (G:=Gt) l.conf
 have m2:=JSo c l.blk l.cert (by have:=ht.cms; omega) ht.heights ht.leaves ht.votes (by have:=ht.bytes; omega) ht.qs
 have m3:=JQZ l.conf ht.lms
 unfold stepK
 by_cases c1:l.blk.height ≤ h
 ·simp [Conf.av,Lnk.av,Blk.avS,dv,c1]
  refine Jb (.inr rfl) ?_
  simp
 cases h2:l.conf.good
 ·rw [h2] at m1
  simp [Conf.av,Lnk.av,Blk.avS,dv,c1]
  refine Ja m1 ?_ ?_
  ·simp [Conf.av]
  simp
  refine Jb (.inr rfl) ?_
  simp
 rw [h2] at m1
 by_cases c3:l.conf.epoch ≤ c.epoch
 ·simp [Conf.av,Lnk.av,Blk.avS,dv,c1]
  refine Ja m1 ?_ ?_
  ·simp [Conf.av]
  simp [c3]
  refine Jb (.inr rfl) ?_
  simp
 cases h4:checkC c l.blk l.cert
 ·rw [h4] at m2
  simp [Conf.av,Lnk.av,Blk.avS,dv,c1]
  refine Ja m1 ?_ ?_
  ·simp [Conf.av]
  simp [c3]
  refine Ja m2 ?_ ?_
  ·simp [Conf.av,Blk.avS,dv]
  simp
  refine Jb (.inr rfl) ?_
  simp
 rw [h4] at m2
 generalize l.conf.dg = d at *
 by_cases c5:d = l.blk.next
 ·simp [Conf.av,Lnk.av,Blk.avS,dv,c1]
  refine Ja m1 ?_ ?_
  ·simp [Conf.av]
  simp [c3]
  refine Ja m2 ?_ ?_
  ·simp [Conf.av,Blk.avS,dv]
  simp
  refine Ja m3 ?_ ?_
  ·simp [Conf.av]
  simp [dv,eq_true c5]
  refine Jb (.inr rfl) ?_
  simp [c5]
 ·simp [Conf.av,Lnk.av,Blk.avS,dv,c1]
  refine Ja m1 ?_ ?_
  ·simp [Conf.av]
  simp [c3]
  refine Ja m2 ?_ ?_
  ·simp [Conf.av,Blk.avS,dv]
  simp
  refine Ja m3 ?_ ?_
  ·simp [Conf.av]
  simp [dv,c5]
  refine Jb (.inr rfl) ?_
  simp [c5]
end
section
open Go
set_option maxHeartbeats 8000000
variable {G:Nat → Option AV}
instance : Inhabited Lnk := ⟨Lnk.zero⟩
def runK : Conf → Int → List Lnk → Nat → Conf × Nat × Int
 | c,_,[],i=>(c,i,0)
 | c,h,l :: ls,i=>if stepK c h l = 0 then runK l.conf l.blk.height ls (i + 1) else (Conf.zero,i,stepK c h l)
def checkL (c:Conf) (ls:List Lnk) : Conf × Nat × Int := if c.good = false then (Conf.zero,0,1) else if 1024 < ls.length then (Conf.zero,0,11) else runK c 0 ls 0
def chAv (r:Conf × Nat × Int) : AV := .tup [r.1.av,.v (.int .i64 (r.2.1:Nat)),.v (.int .i64 r.2.2)]
structure Tames (c:Conf) (ls:List Lnk) : Prop where
 few:ls.length ≤ 1024
 cms:c.ms.length ≤ 1000
 heights:∀ m ∈ c.ms,W64 m.height
 links:∀ l ∈ ls,l.conf.ms.length ≤ 1000 ∧ (∀ m ∈ l.conf.ms,W64 m.height) ∧ (∀ v ∈ l.cert.votes,W64 v.sig.leaf) ∧ l.cert.votes.length ≤ 1000000 ∧ l.blk.bytes.length ≤ 40000000 ∧ l.blk.qs.length ≤ 1000000
def Conf.calm (c:Conf) : Prop := c.ms.length ≤ 1000 ∧ ∀ m ∈ c.ms,W64 m.height
theorem Tames.tame {c d:Conf} {ls:List Lnk} {l:Lnk} (h:Tames c ls) (hl:l ∈ ls) (hd:d.calm) : l.Tame d := by
 obtain ⟨h1,h2,h3,h4,h5,h6⟩:=h.links l hl
 exact ⟨hd.1,h1,hd.2,h3,h4,h5,h6⟩
theorem Tames.calm {c:Conf} {ls:List Lnk} {l:Lnk} (h:Tames c ls) (hl:l ∈ ls) : l.conf.calm := by
 obtain ⟨h1,h2,_⟩:=h.links l hl
 exact ⟨h1,h2⟩
theorem J1b {c:Conf} {h:Int} {ls:List Lnk} {j:Nat} (hj:j < ls.length) : runK c h (ls.drop j) j = if stepK c h ls[j] = 0 then runK (ls[j]).conf (ls[j]).blk.height (ls.drop (j + 1)) (j + 1) else (Conf.zero,j,stepK c h ls[j]) := by
 rw [List.drop_eq_getElem_cons hj]
 rfl
attribute [local irreducible] sha comp hb checkK idxOf Vote.signs Vote.good rightV Conf.good Blk.good Blk.dg quorum checkC Conf.dg stepK runK
theorem JQB (c:Conf) (ls:List Lnk) (ht:Tames c ls) : Meets Tryz.prog Gt Jm1 [c.av,.sl 103 (Lnks ls)] [] false (chAv (checkL c ls)) [] := by
 refine Jc mix JQq ⟨by simp,by simp [chAv],by simp⟩ ?_
 have m1:=JpS (G:=Gt) c
 unfold checkL
 cases h1:c.good
 ·rw [h1] at m1
  simp [Conf.av]
  refine Ja m1 ?_ ?_
  ·simp [Conf.av]
  simp
  refine Jb (.inr rfl) ?_
  simp [chAv,Conf.av,Conf.zero]
 rw [h1] at m1
 have hfew:=ht.few
 have c2:¬ (1024:Int) < (ls.length:Nat):=by omega
 have c3:¬ 1024 < ls.length:=by omega
 rw [if_neg (by simp),if_neg c3]
 obtain ⟨res,hres⟩:∃ res,runK c 0 ls 0 = res:=⟨_,rfl⟩
 rw [hres]
 simp
 refine Ja m1 ?_ ?_
 ·simp
 simp [c2]
 refine go_up ls.length (fun j (p:Conf × Int)=>runK p.1 p.2 (ls.drop j) j = res ∧ p.1.calm) (fun j p q=>⟨[(1,.sl 103 (Lnks ls)),(4,.ptr 4 q 0),(7,.ptr 7 q 0),(8,.v (.int .i64 p.2)),(21,.sl 103 (Lnks ls)),(22,.v (.int .i64 (ls.length:Nat))),(23,.v (.int .i64 (j:Nat)))],
  [(4,.var q (.node [.v (.int .i64 0),.v (.slice none 0 0)])),(7,.var q p.1.av)],q + 1⟩) (c,0) _ (Weak.re (by simp)) ⟨by simpa using hres,ht.cms,ht.heights⟩ ?_ ?_
 ·rintro j ⟨d,h⟩ q hj ⟨hr,hcalm⟩
  have hw:IntKind.i64.wrap ((j:Int) + 1) = ((j + 1:Nat):Int):=Jf (by omega)
  obtain ⟨l,hl⟩:∃ l,ls[j] = l:=⟨_,rfl⟩
  have hmem:l ∈ ls:=by rw [← hl]; exact List.getElem_mem hj
  have m2:=JX1 d h l (ht.tame hmem hcalm)
  have hc2:=ht.calm hmem
  dsimp only at hr
  rw [J1b hj,hl] at hr
  generalize stepK d h l = e at *
  simp [hj,hl]
  refine Ja m2 ?_ ?_
  ·simp
  simp [Lnk.av,Blk.avS]
  by_cases he:e = 0
  ·rw [if_pos he] at hr
   simp [eq_true he,hw]
   exact ⟨(l.conf,l.blk.height),_,Weak.re (by simp),hr,hc2⟩
  ·rw [if_neg he] at hr
   subst hr
   simp [he]
   refine Jb (.inr rfl) ?_
   simp [chAv,Conf.av,Conf.zero]
 ·rintro ⟨d,h⟩ q ⟨hr,hcalm⟩
  have hcl:d.ms.length ≤ 1000:=hcalm.1
  have hf:fitsB d.ms.length 48:=fits (by omega) (by omega)
  have hr2:res = (d,ls.length,0):=by
   rw [← hr,List.drop_length]
   unfold runK
   rfl
  subst hr2
  simp [Conf.av,hf]
  refine Jb (.inr rfl) ?_
  simp [chAv,Conf.av]
end
section
open Go
def repE : Nat → List (Int × Rep) → List AV
 | _,[]=>[]
 | i,p :: ps=>entA (.v (.int .i64 p.1)) p.2.avS (i:Nat) :: repE (i + 1) ps
@[simp] theorem J78 (i:Nat) : repE i [] = [] := (rfl)
theorem JSX (p:Int × Rep) : ∀ (ps:List (Int × Rep)) (i:Nat),repE i ps ++ [entA (.v (.int .i64 p.1)) p.2.avS ((i + ps.length:Nat):Int)] = repE i (ps ++ [p])
 | [],i=>by simp [repE]
 | w :: ps,i=>by
   have:=JSX p ps (i + 1)
   simp only [List.cons_append,repE,List.length_cons]
   rw [← this,show i + (ps.length + 1) = i + 1 + ps.length by omega]
@[simp] theorem JVh : ∀ (ps:List (Int × Rep)) (i:Nat),(repE i ps).length = ps.length
 | [],_=>rfl
 | v :: ps,i=>by simp [repE,JVh ps (i + 1)]
theorem JNy : ∀ (ps:List (Int × Rep)) (i j:Nat),(repE i ps)[j]? = (ps[j]?).map fun p => entA (.v (.int .i64 p.1)) p.2.avS ((i + j:Nat):Int)
 | [],_,_=>rfl
 | v :: ps,i,0=>by simp [repE]
 | v :: ps,i,j + 1=>by
   have:=JNy ps (i + 1) j
   simp only [repE,List.getElem?_cons_succ,this]
   congr 1
   funext v
   congr 2
   omega
theorem JNV (k:Int) : ∀ (ps:List (Int × Rep)) (i:Nat),findA (.int .i64) (.v (.int .i64 k)) (repE i ps) = some (ps.findIdx? fun p=>decide (p.1 = k))
 | [],_=>rfl
 | p :: ps,i=>by
   have hc:cmpA (.int .i64) (.v (.int .i64 k)) (.v (.int .i64 p.1)) = some (decide (p.1 = k)):=by
    simp only [cmpA,and_self,if_true,Option.some.injEq]
    rw [Bool.eq_iff_iff]
    simp only [beq_iff_eq,decide_eq_true_eq]
    exact eq_comm
   simp only [repE,JXb,JYV,hc,Option.bind_some,JNV k ps (i + 1),Option.map_some,List.findIdx?_cons]
   cases decide (p.1 = k) <;> simp
@[simp] theorem JVy : ∀ (ps:List (Int × Rep)) (i:Nat),closeds (repE i ps) = true
 | [],_=>rfl
 | p :: ps,i=>by simp [repE,closeds,JVy ps (i + 1)]
@[simp] theorem repE_all : ∀ (ps:List (Int × Rep)) (i:Nat),allEnt 1 4 (repE i ps) = true
 | [],_=>rfl
 | p :: ps,i=>by simp [repE,repE_all ps (i + 1)]
theorem JNz : ∀ (vs:List (Int × Rep)) (i:Nat) (e:AV),e ∈ repE i vs → ∃ (j:Nat) (h:j < vs.length),e = entA (.v (.int .i64 (vs[j]).1)) (vs[j]).2.avS ((i + j:Nat):Int)
 | [],_,_,h=>by cases h
 | v :: vs,i,e,h=>by
   simp only [repE,List.mem_cons] at h
   rcases h with rfl | h
   ·exact ⟨0,by simp,by simp⟩
   ·obtain ⟨j,hj,rfl⟩:=JNz vs (i + 1) e h
    refine ⟨j + 1,by simpa using hj,?_⟩
    simp only [List.getElem_cons_succ]
    congr 2
    omega
theorem J4B (vs:List (Int × Rep)) (i j:Nat) (h:j < vs.length) : entA (.v (.int .i64 (vs[j]).1)) (vs[j]).2.avS ((i + j:Nat):Int) ∈ repE i vs := by
 have h1:=JNy vs i j
 rw [List.getElem?_eq_getElem h] at h1
 exact List.mem_of_getElem? h1
theorem JPO : ∀ (vs:List (Int × Rep)) (i j:Nat) (h:j < vs.length),findB ((i + j:Nat):Int) (repE i vs) = some (entA (.v (.int .i64 (vs[j]).1)) (vs[j]).2.avS ((i + j:Nat):Int))
 | v :: vs,i,0,_=>by simp [repE,JPV]
 | v :: vs,i,j + 1,h=>by
   have:=JPO vs (i + 1) j (by simpa using h)
   have e:(i + 1 + j:Nat) = i + (j + 1):=by omega
   rw [e] at this
   have hne:¬ ((i:Nat):Int) = ((i + (j + 1):Nat):Int):=by omega
   simp only [repE,JPV,List.getElem_cons_succ]
   rw [if_neg hne]
   exact this
theorem JWo (p:Int × Rep) : ∀ (ps:List (Int × Rep)) (i j:Nat),(repE i ps).set j (entA (.v (.int .i64 p.1)) p.2.avS ((i + j:Nat):Int)) = repE i (ps.set j p)
 | [],_,_=>by simp [repE]
 | q :: ps,i,0=>by simp [repE]
 | q :: ps,i,j + 1=>by
   have:=JWo p ps (i + 1) j
   simp only [repE,List.set_cons_succ]
   rw [← this,show i + (j + 1) = i + 1 + j by omega]
def domF (b n:Nat) : List Int := (List.range n).map fun (i:Nat) => ((b + i:Nat):Int)
theorem JWg {b n:Nat} {i:Int} : i ∈ domF b n ↔ ∃ j : Nat,j < n ∧ i = ((b + j:Nat):Int) := by
 unfold domF
 simp only [List.mem_map,List.mem_range]
 constructor
 ·rintro ⟨j,h,rfl⟩; exact ⟨j,h,rfl⟩
 ·rintro ⟨j,h,rfl⟩; exact ⟨j,h,rfl⟩
theorem JWB (b n:Nat) : (domF b n).Nodup := by
 unfold domF
 exact List.Pairwise.map _ (fun a b h e=>h (by omega)) List.nodup_range
def visT (b:Nat) (T:List (Int × Rep)) (vis:List Int) : List (Int × Rep) := vis.filterMap fun i => T[(i - (b:Int)).toNat]?
theorem JY5 (b:Nat) (T:List (Int × Rep)) (vis:List Int) {j:Nat} (hj:j < T.length) : visT b T (vis ++ [((b + j:Nat):Int)]) = visT b T vis ++ [T[j]] := by
 unfold visT
 rw [List.filterMap_append]
 have e:((((b + j:Nat):Int)) - (b:Int)).toNat = j:=by omega
 simp only [List.filterMap_cons,List.filterMap_nil,e,List.getElem?_eq_getElem hj]
theorem JP6 {α:Type} : ∀ (l:List α),(List.range l.length).filterMap (fun i=>l[i]?) = l
 | []=>rfl
 | a :: l=>by
   rw [List.length_cons,List.range_succ_eq_map,List.filterMap_cons,List.filterMap_map]
   simp only [List.getElem?_cons_zero,List.cons.injEq,true_and]
   have:=JP6 l
   simpa [Function.comp_def] using this
theorem visT_all {b:Nat} {T:List (Int × Rep)} {vis:List Int} (hv:Vis (domF b T.length) vis) (h:∀ j:Nat,j < T.length → ((b + j:Nat):Int) ∈ vis) : (visT b T vis).Perm T := by
 have hp:vis.Perm (domF b T.length):=(List.perm_ext_iff_of_nodup hv.nd (JWB _ _)).2 fun i=>⟨hv.sub i,fun hi=>by
  obtain ⟨j,hj,rfl⟩:=JWg.1 hi
  exact h j hj⟩
 have h1:(visT b T vis).Perm (visT b T (domF b T.length)):=hp.filterMap _
 have h2:visT b T (domF b T.length) = T:=by
  unfold visT domF
  rw [List.filterMap_map]
  have:((fun i:Int=>T[(i - (b:Int)).toNat]?) ∘ fun (i:Nat)=>((b + i:Nat):Int)) = fun i=>T[i]?:=by
   funext i
   have e:((((b + i:Nat):Int)) - (b:Int)).toNat = i:=by omega
   simp only [Function.comp,e]
  rw [this]
  exact JP6 T
 rw [h2] at h1
 exact h1
structure Cli where
 id:Int
 first:Conf
 conf:Conf
 req:Req
 opn:Bool
 ticks:Int
 base:Nat
 told:List (Int × Rep)
 rep:Rep
def cliV (g:Nat) (c:Cli) : AV := .node [.v (.int .i64 c.id),c.first.av,c.conf.av,c.req.av,.v (.bool c.opn),.v (.int .i64 c.ticks),.oref 1001 g true,c.rep.avS]
def cliT (g:Nat) (c:Cli) : Loc := .ob g (.map false 1 true 4) (.node [.node (repE c.base c.told),.v (.int .i64 ((c.base + c.told.length:Nat):Int))])
def cliM (c:Cli) : List (Nat × Loc) := [(1000,.var 0 (cliV 0 c)),(1001,cliT 0 c)]
def okA (cf:Conf) (a:Rep) (p:Int × Rep) : Bool := decide (0 ≤ idxOf cf.ms p.1) && decide (a.bytes = p.2.bytes)
def countC (c:Cli) (a:Rep) : Cli := if faults c.conf.ms.length + 1 ≤ c.told.countP (okA c.conf a) then { c with opn:=false,rep:=a } else c
def putT (T:List (Int × Rep)) (k:Int) (a:Rep) : List (Int × Rep) := match T.findIdx? (fun p=>decide (p.1 = k)) with
 | some i=>T.set i (k,a)
 | none=>T ++ [(k,a)]
def answerC (c:Cli) (k:Int) (a:Rep) : Cli := if c.opn = false ∨ a.client ≠ c.id ∨ a.num ≠ c.req.num then c else countC { c with told:=putT c.told k a } a
def lookT (T:List (Int × Rep)) (k:Int) : Option Rep := (T.find? fun p=>decide (p.1 = k)).map (·.2)
def reC (c:Cli) (m:Mem) : Cli := match lookT c.told m.id with
 | some a=>if c.opn = true then countC c a else c
 | none=>c
def linksC (c:Cli) (ls:List Lnk) : Cli := if (checkL c.first ls).2.2 = 0 ∧ c.conf.epoch < (checkL c.first ls).1.epoch then (checkL c.first ls).1.ms.foldl reC { c with conf:=(checkL c.first ls).1 } else c
def hearC (c:Cli) (k:Int) (f:Bytes) : Cli := if decE f ≠ 0 then c else if (decM f).kind = 4 then answerC c k (decM f).rep else if (decM f).kind = 8 then linksC c (decM f).links else c
structure Rep.Tame (a:Rep) : Prop where
 bytes:a.bytes.length ≤ 60000000
 vals:a.vals.length ≤ 1000000
structure Cli.Ok (c:Cli) : Prop where
 ms:c.conf.ms ≠ []
 few:c.conf.ms.length ≤ 1000
 told:c.told.length ≤ 1000
 base:c.base ≤ 1000000
 reps:∀ p ∈ c.told,p.2.Tame
 rep:c.rep.Tame
theorem JpU (c:Cli) (a:Rep) : (countC c a).told = c.told ∧ (countC c a).conf = c.conf ∧ (countC c a).base = c.base ∧ (countC c a).first = c.first ∧ (countC c a).id = c.id ∧ (countC c a).req = c.req ∧ (countC c a).ticks = c.ticks := by
 unfold countC
 split <;> exact ⟨rfl,rfl,rfl,rfl,rfl,rfl,rfl⟩
theorem JYa (c:Cli) (a:Rep) : (countC c a).rep = c.rep ∨ (countC c a).rep = a := by
 unfold countC
 split
 ·exact .inr rfl
 ·exact .inl rfl
theorem JTf {c:Cli} {a:Rep} (h:c.Ok) (ha:a.Tame) : (countC c a).Ok := by
 obtain ⟨h1,h2,h3,_⟩:=JpU c a
 refine ⟨by rw [h2]; exact h.ms,by rw [h2]; exact h.few,by rw [h1]; exact h.told,by rw [h3]; exact h.base,by rw [h1]; exact h.reps,?_⟩
 rcases JYa c a with e | e <;> rw [e]
 ·exact h.rep
 ·exact ha
theorem JQL (T:List (Int × Rep)) (k:Int) (a:Rep) : (putT T k a).length ≤ T.length + 1 := by
 unfold putT
 split <;> simp
theorem JKz {T:List (Int × Rep)} {k:Int} {a:Rep} {p:Int × Rep} (h:p ∈ putT T k a) : p ∈ T ∨ p = (k,a) := by
 unfold putT at h
 split at h
 ·rcases List.mem_or_eq_of_mem_set h with h | h
  ·exact .inl h
  ·exact .inr h
 ·rcases List.mem_append.1 h with h | h
  ·exact .inl h
  ·exact .inr (by simpa using h)
theorem JSY {T:List (Int × Rep)} {k:Int} {a:Rep} (h:lookT T k = some a) : (k,a) ∈ T := by
 unfold lookT at h
 cases hf:T.find? fun p=>decide (p.1 = k) with
 | none=>rw [hf] at h; cases h
 | some p =>
   rw [hf] at h
   have h1:=List.mem_of_find?_eq_some hf
   have h2:=List.find?_some hf
   simp only [decide_eq_true_eq] at h2
   have h3:p.2 = a:=Option.some.inj h
   rw [← h2,← h3]
   exact h1
theorem J2v {c:Cli} {m:Mem} (h:c.Ok) : (reC c m).Ok := by
 unfold reC
 cases hl:lookT c.told m.id with
 | none=>exact h
 | some a =>
   simp only
   split
   ·exact JTf h (h.reps _ (JSY hl))
   ·exact h
end
section
open Go
set_option maxHeartbeats 4000000
variable {G:Nat → Option AV}
def clS0 (sz:Nat) (xs:List AV) : SA := ⟨[(0,.sl sz xs)],[],3⟩
def clS1 (sz:Nat) (xs:List AV) (b:Bool) : SA := ⟨[(0,.sl sz xs),(4,.v (.bool b))],[],5⟩
noncomputable def clmB : Code := match Tryz.f26.body with
 | some c=>c
 | none=>.skip
theorem J0C : Tryz.f26.body = some clmB := by kernel_rfl
noncomputable def clmOps : Array Oper := regOps (seqL (seqL (seqR clmB)))
theorem J4f : clmB = .seq (seqL clmB) (.seq (.seq (.region 1 clmOps false) (seqR (seqL (seqR clmB)))) (seqR (seqR clmB))) := by kernel_rfl
theorem J1I : clmOps.size = 2 := by kernel_rfl
theorem J4j : clmOps[0]? = some (clmOps[0]!) := by kernel_rfl
theorem J0K : chkOper Tryz.prog clmOps 8 (clmOps[0]!) ⟨some 3,.mov,[.t 0],none⟩ = true := by kernel_rfl
theorem J4c : ∃ t p af,clmOps[1]? = some ⟨some 4,.binOp .eql 22 (.tmp 3) (.const (.slice none 0 0)) 22,t,p,af,none⟩ := by
 have h:clmOps[1]? = some (clmOps[1]!):=by kernel_rfl
 have h2:clmOps[1]! = ⟨some 4,.binOp .eql 22 (.tmp 3) (.const (.slice none 0 0)) 22,(clmOps[1]!).type,(clmOps[1]!).pos,(clmOps[1]!).after,none⟩:=by kernel_rfl
 exact ⟨_,_,_,h.trans (congrArg some h2)⟩
def JQN : List COper := [⟨some 2,.mov,[.c (.slice none 0 0)],none⟩]
instance : Reg JQN [⟨some 2,.mov,[.c (.slice none 0 0)],none⟩] 1 := ⟨rfl,rfl⟩
def JVW : List COper := [⟨some 2,.mov,[.c (.slice none 0 0)],none⟩]
instance : Reg JVW [⟨some 2,.mov,[.c (.slice none 0 0)],none⟩] 1 := ⟨rfl,rfl⟩
def JWi : List COper := [⟨some 5,.bslice 34 0 (.node [.v (.int .i64 0),.node [.arr 1 (rep 32 (.v (.int .u8 0))),.v (.int .i64 0)]]) [],[],none⟩,⟨some 6,.mov,[.t 0],none⟩,⟨some 7,.app 34 48,[.t 5,.t 6],none⟩,⟨some 2,.mov,[.t 7],none⟩]
instance : Reg JWi [⟨some 5,.bslice 34 0 (.node [.v (.int .i64 0),.node [.arr 1 (rep 32 (.v (.int .u8 0))),.v (.int .i64 0)]]) [],[],none⟩,⟨some 6,.mov,[.t 0],none⟩,⟨some 7,.app 34 48,[.t 5,.t 6],none⟩,⟨some 2,.mov,[.t 7],none⟩] 4 := ⟨rfl,rfl⟩
def clmc1 : CCode := .cond (.t 4) (.seq (.region JVW none [2]) .ret) .skip
def clmc2 : CCode := .seq (.region JWi none [2]) .ret
theorem J1p : chkCode Tryz.prog 8 (seqL clmB) (.region JQN none [0]) = true := by kernel_rfl
theorem J1D : chkCode Tryz.prog 8 (seqR (seqL (seqR clmB))) clmc1 = true := by kernel_rfl
theorem J1C : chkCode Tryz.prog 8 (seqR (seqR clmB)) clmc2 = true := by kernel_rfl
theorem J7C (xs:List Mem) : awp Tryz.prog G (.region JQN none [0]) (fun e S=>e = .normal ∧ S = clS0 34 (Mems xs)) ⟨argsL 0 [.sl 34 (Mems xs)],[],2⟩ := by
 refine JKJ ?_
 simp
 rfl
theorem J6B (xs:List Mem) (b:Bool) (hb:b = true → xs = []) : awp Tryz.prog G clmc1 (fun e S=>(e = .ret ∧ postA [.tmp 2] (.sl 34 (Mems xs)) [] e S) ∨ (e = .normal ∧ b = false ∧ S = clS1 34 (Mems xs) false)) (clS1 34 (Mems xs) b) := by
 refine JKJ ?_
 cases b
 ·simp [clmc1,clS1]
 ·obtain rfl:=hb rfl
  simp [clmc1,clS1]
  refine Jb (.inr rfl) ?_
  simp
theorem J6C (xs:List Mem) (h:xs.length ≤ 1000000) : awp Tryz.prog G clmc2 (postA [.tmp 2] (.sl 34 (Mems xs)) []) (clS1 34 (Mems xs) false) := by
 refine JKJ ?_
 have hft:fitsB xs.length 48:=fits (by omega) (by omega)
 simp [clmc2,clS1,hft]
 refine Jb (.inr rfl) ?_
 simp
section
variable {w0:World} {Ws I0:Nat → Prop} {C0:Ctx}
theorem J37 {xs:List Mem} {a:Act} {w:World} {Q:Exit → Act → World → Prop} (hr:Rel w0 Ws I0 G C0 8 (clS0 34 (Mems xs)) a w)
 (hK:∀ b a' w',(b = true → xs = []) → Rel w0 Ws I0 G C0 8 (clS1 34 (Mems xs) b) a' w' → Q .normal a' w'):(Code.region 1 clmOps false).wp Tryz.prog Q a w:=by
 refine wp_region ?_
 rw [J1I,show List.range 2 = [0,1] from rfl]
 rw [Jd4,Jd4]
 obtain ⟨hk,C,rfl,hm⟩:=hr
 have hm0:=Rel.start (n:=2) hk hm [0]
 refine JNL (rd:=[]) (us:=[]) (av:=.sl 34 (Mems xs)) J4j J0K (by decide) (by simp) (by simp [clS0]) (by simp [clS0]) hm0 (.inr ⟨rfl,[.sl 34 (Mems xs)],rfl,rfl,rfl⟩) fun a1 C1 h1=>?_
 obtain ⟨y,e3,v3⟩:=h1.fr 3 (.sl 34 (Mems xs)) rfl
 have hsize:=h1.size
 have v3':V C1 (.sl 34 (Mems xs)) [y]:=v3
 simp only [V] at v3'
 obtain ⟨ao,cap,body,q3,_,_,_,hbk⟩:=v3'
 obtain rfl:=(List.cons.inj q3).1
 obtain ⟨t,p,af,h3⟩:=J4c
 have hnil:ao.isNone = true → xs = []:=fun h=>by
  rcases hbk with hb | ⟨b,o,rfl,_⟩
  ·have:=congrArg List.length hb
   simpa using this
  ·cases h
 unfold wpOp
 rw [h3]
 simp only
 rw [if_pos (by rfl)]
 left
 unfold Oper.wp
 have run3:(execOp a1.eval ⟨some 4,.binOp .eql 22 (.tmp 3) (.const (.slice none 0 0)) 22,t,p,af,none⟩).run Tryz.prog C1.w = .ok (.value (.bool ao.isNone)) C1.w:=by
  have e:a1.eval (.tmp 3) = .slice ao (Mems xs).length cap:=by
   show a1.tmps.getD 3 undef = _
   rw [Array.getD_eq_getD_getElem?,e3]; rfl
  have hrun:=Lib.run_eql_slice_nil (P:=Tryz.prog) C1.w 22 _ ao (Mems xs).length cap 0 0 Tryz.underlying22
  have e2:a1.eval (.const (.slice none 0 0)) = .slice none 0 0:=rfl
  generalize (Mems xs).length = nn at *
  have eg:eqGuard .eql 22 (.tmp 3) (.const (.slice none 0 0)) (.slice ao nn cap) (.slice none 0 0) = pure ():=rfl
  simp [execOp,e,e2,eg,hrun,Result.andThen]
 rw [run3,Oper.upon_value]
 refine hK ao.isNone _ _ hnil ⟨by simp [clS1],C1,rfl,h1.wr,h1.m,?_,h1.gr,h1.le,by simp [Act.put,hsize],by simp [Act.put,h1.defers],by simp,fun k hk=>h1.top k hk,h1.one⟩
 intro u x hx
 simp only [clS1,look] at hx
 by_cases e0:0 = u
 ·subst e0
  rw [if_pos rfl] at hx
  obtain rfl:=Option.some.inj hx
  obtain ⟨z,k1,k2⟩:=h1.fr 0 (.sl 34 (Mems xs)) rfl
  refine ⟨z,?_,k2⟩
  simp only [Act.put]
  rw [Array.getElem?_setIfInBounds_ne (by decide)]
  exact k1
 ·rw [if_neg e0] at hx
  by_cases e4:4 = u
  ·subst e4
   rw [if_pos rfl] at hx
   obtain rfl:=Option.some.inj hx
   refine ⟨.bool ao.isNone,?_,?_⟩
   ·simp only [Act.put]
    rw [Array.getElem?_setIfInBounds_self_of_lt (by omega)]
   ·simp [SV,SV1,V,Value.oneCell']
  ·rw [if_neg e4] at hx; cases hx
end
theorem JYC (xs:List Mem) (h:xs.length ≤ 1000000) : Meets Tryz.prog G 26 [.sl 34 (Mems xs)] [] false (.sl 34 (Mems xs)) [] := by
 have hf:Tryz.prog.funcs[26]? = some Tryz.f26:=by kernel_rfl
 have hnt:Tryz.f26.ntmps = 8:=by kernel_rfl
 refine JGG (rs:=[.tmp 2]) hf J0C (by kernel_rfl) (by rw [hnt]; simp) ⟨by simp,by simp,by simp⟩ fun w0 Ws I0 C0 a w hr=>?_
 rw [hnt] at hr ⊢
 rw [J4f]
 refine wp_seq (wp_mono (JHv mix J1p (J7C xs) hr) ?_)
 rintro e a1 w1 ⟨S1,⟨rfl,rfl⟩,h1⟩
 refine wp_seq (wp_seq (J37 h1 fun b a2 w2 hb h2=>?_))
 refine wp_mono (JHv mix J1D (J6B xs b hb) h2) ?_
 rintro e a3 w3 ⟨S3,⟨rfl,hp⟩ | ⟨rfl,rfl,rfl⟩,h3⟩
 ·exact ⟨S3,hp,h3⟩
 ·exact JHv mix J1C (J6C xs h) h3
noncomputable def clsB : Code := match Tryz.f36.body with
 | some c=>c
 | none=>.skip
theorem J1S : Tryz.f36.body = some clsB := by kernel_rfl
noncomputable def clsOps : Array Oper := regOps (seqL (seqL (seqR clsB)))
theorem J3e : clsB = .seq (seqL clsB) (.seq (.seq (.region 1 clsOps false) (seqR (seqL (seqR clsB)))) (seqR (seqR clsB))) := by kernel_rfl
theorem J0S : clsOps.size = 2 := by kernel_rfl
theorem J3t : clsOps[0]? = some (clsOps[0]!) := by kernel_rfl
theorem J1e : chkOper Tryz.prog clsOps 8 (clsOps[0]!) ⟨some 3,.mov,[.t 0],none⟩ = true := by kernel_rfl
theorem J4D : ∃ t p af,clsOps[1]? = some ⟨some 4,.binOp .eql 62 (.tmp 3) (.const (.slice none 0 0)) 62,t,p,af,none⟩ := by
 have h:clsOps[1]? = some (clsOps[1]!):=by kernel_rfl
 have h2:clsOps[1]! = ⟨some 4,.binOp .eql 62 (.tmp 3) (.const (.slice none 0 0)) 62,(clsOps[1]!).type,(clsOps[1]!).pos,(clsOps[1]!).after,none⟩:=by kernel_rfl
 exact ⟨_,_,_,h.trans (congrArg some h2)⟩
def JQC : List COper := [⟨some 2,.mov,[.c (.slice none 0 0)],none⟩]
instance : Reg JQC [⟨some 2,.mov,[.c (.slice none 0 0)],none⟩] 1 := ⟨rfl,rfl⟩
def JWx : List COper := [⟨some 2,.mov,[.c (.slice none 0 0)],none⟩]
instance : Reg JWx [⟨some 2,.mov,[.c (.slice none 0 0)],none⟩] 1 := ⟨rfl,rfl⟩
def JWh : List COper := [⟨some 5,.bslice 1 0 (.v (.string (mkS []))) [],[],none⟩,⟨some 6,.mov,[.t 0],none⟩,⟨some 7,.app 1 16,[.t 5,.t 6],none⟩,⟨some 2,.mov,[.t 7],none⟩]
instance : Reg JWh [⟨some 5,.bslice 1 0 (.v (.string (mkS []))) [],[],none⟩,⟨some 6,.mov,[.t 0],none⟩,⟨some 7,.app 1 16,[.t 5,.t 6],none⟩,⟨some 2,.mov,[.t 7],none⟩] 4 := ⟨rfl,rfl⟩
def clsc1 : CCode := .cond (.t 4) (.seq (.region JWx none [2]) .ret) .skip
def clsc2 : CCode := .seq (.region JWh none [2]) .ret
theorem J1R : chkCode Tryz.prog 8 (seqL clsB) (.region JQC none [0]) = true := by kernel_rfl
theorem J1L : chkCode Tryz.prog 8 (seqR (seqL (seqR clsB))) clsc1 = true := by kernel_rfl
theorem J0W : chkCode Tryz.prog 8 (seqR (seqR clsB)) clsc2 = true := by kernel_rfl
theorem J59 (xs:List Bytes) : awp Tryz.prog G (.region JQC none [0]) (fun e S=>e = .normal ∧ S = clS0 1 (Strs xs)) ⟨argsL 0 [.sl 1 (Strs xs)],[],2⟩ := by
 refine JKJ ?_
 simp
 rfl
theorem J6N (xs:List Bytes) (b:Bool) (hb:b = true → xs = []) : awp Tryz.prog G clsc1 (fun e S=>(e = .ret ∧ postA [.tmp 2] (.sl 1 (Strs xs)) [] e S) ∨ (e = .normal ∧ b = false ∧ S = clS1 1 (Strs xs) false)) (clS1 1 (Strs xs) b) := by
 refine JKJ ?_
 cases b
 ·simp [clsc1,clS1]
 ·obtain rfl:=hb rfl
  simp [clsc1,clS1]
  refine Jb (.inr rfl) ?_
  simp
theorem J56 (xs:List Bytes) (h:xs.length ≤ 1000000) : awp Tryz.prog G clsc2 (postA [.tmp 2] (.sl 1 (Strs xs)) []) (clS1 1 (Strs xs) false) := by
 refine JKJ ?_
 have hft:fitsB xs.length 16:=fits (by omega) (by omega)
 simp [clsc2,clS1,hft]
 refine Jb (.inr rfl) ?_
 simp
section
variable {w0:World} {Ws I0:Nat → Prop} {C0:Ctx}
theorem J4b {xs:List Bytes} {a:Act} {w:World} {Q:Exit → Act → World → Prop} (hr:Rel w0 Ws I0 G C0 8 (clS0 1 (Strs xs)) a w)
 (hK:∀ b a' w',(b = true → xs = []) → Rel w0 Ws I0 G C0 8 (clS1 1 (Strs xs) b) a' w' → Q .normal a' w'):(Code.region 1 clsOps false).wp Tryz.prog Q a w:=by
 refine wp_region ?_
 rw [J0S,show List.range 2 = [0,1] from rfl]
 rw [Jd4,Jd4]
 obtain ⟨hk,C,rfl,hm⟩:=hr
 have hm0:=Rel.start (n:=2) hk hm [0]
 refine JNL (rd:=[]) (us:=[]) (av:=.sl 1 (Strs xs)) J3t J1e (by decide) (by simp) (by simp [clS0]) (by simp [clS0]) hm0 (.inr ⟨rfl,[.sl 1 (Strs xs)],rfl,rfl,rfl⟩) fun a1 C1 h1=>?_
 obtain ⟨y,e3,v3⟩:=h1.fr 3 (.sl 1 (Strs xs)) rfl
 have hsize:=h1.size
 have v3':V C1 (.sl 1 (Strs xs)) [y]:=v3
 simp only [V] at v3'
 obtain ⟨ao,cap,body,q3,_,_,_,hbk⟩:=v3'
 obtain rfl:=(List.cons.inj q3).1
 obtain ⟨t,p,af,h3⟩:=J4D
 have hnil:ao.isNone = true → xs = []:=fun h=>by
  rcases hbk with hb | ⟨b,o,rfl,_⟩
  ·have:=congrArg List.length hb
   simpa using this
  ·cases h
 unfold wpOp
 rw [h3]
 simp only
 rw [if_pos (by rfl)]
 left
 unfold Oper.wp
 have run3:(execOp a1.eval ⟨some 4,.binOp .eql 62 (.tmp 3) (.const (.slice none 0 0)) 62,t,p,af,none⟩).run Tryz.prog C1.w = .ok (.value (.bool ao.isNone)) C1.w:=by
  have e:a1.eval (.tmp 3) = .slice ao (Strs xs).length cap:=by
   show a1.tmps.getD 3 undef = _
   rw [Array.getD_eq_getD_getElem?,e3]; rfl
  have hrun:=Lib.run_eql_slice_nil (P:=Tryz.prog) C1.w 62 _ ao (Strs xs).length cap 0 0 Tryz.underlying62
  have e2:a1.eval (.const (.slice none 0 0)) = .slice none 0 0:=rfl
  generalize (Strs xs).length = nn at *
  have eg:eqGuard .eql 62 (.tmp 3) (.const (.slice none 0 0)) (.slice ao nn cap) (.slice none 0 0) = pure ():=rfl
  simp [execOp,e,e2,eg,hrun,Result.andThen]
 rw [run3,Oper.upon_value]
 refine hK ao.isNone _ _ hnil ⟨by simp [clS1],C1,rfl,h1.wr,h1.m,?_,h1.gr,h1.le,by simp [Act.put,hsize],by simp [Act.put,h1.defers],by simp,fun k hk=>h1.top k hk,h1.one⟩
 intro u x hx
 simp only [clS1,look] at hx
 by_cases e0:0 = u
 ·subst e0
  rw [if_pos rfl] at hx
  obtain rfl:=Option.some.inj hx
  obtain ⟨z,k1,k2⟩:=h1.fr 0 (.sl 1 (Strs xs)) rfl
  refine ⟨z,?_,k2⟩
  simp only [Act.put]
  rw [Array.getElem?_setIfInBounds_ne (by decide)]
  exact k1
 ·rw [if_neg e0] at hx
  by_cases e4:4 = u
  ·subst e4
   rw [if_pos rfl] at hx
   obtain rfl:=Option.some.inj hx
   refine ⟨.bool ao.isNone,?_,?_⟩
   ·simp only [Act.put]
    rw [Array.getElem?_setIfInBounds_self_of_lt (by omega)]
   ·simp [SV,SV1,V,Value.oneCell']
  ·rw [if_neg e4] at hx; cases hx
end
theorem JY2 (xs:List Bytes) (h:xs.length ≤ 1000000) : Meets Tryz.prog G 36 [.sl 1 (Strs xs)] [] false (.sl 1 (Strs xs)) [] := by
 have hf:Tryz.prog.funcs[36]? = some Tryz.f36:=by kernel_rfl
 have hnt:Tryz.f36.ntmps = 8:=by kernel_rfl
 refine JGG (rs:=[.tmp 2]) hf J1S (by kernel_rfl) (by rw [hnt]; simp) ⟨by simp,by simp,by simp⟩ fun w0 Ws I0 C0 a w hr=>?_
 rw [hnt] at hr ⊢
 rw [J3e]
 refine wp_seq (wp_mono (JHv mix J1R (J59 xs) hr) ?_)
 rintro e a1 w1 ⟨S1,⟨rfl,rfl⟩,h1⟩
 refine wp_seq (wp_seq (J4b h1 fun b a2 w2 hb h2=>?_))
 refine wp_mono (JHv mix J1L (J6N xs b hb) h2) ?_
 rintro e a3 w3 ⟨S3,⟨rfl,hp⟩ | ⟨rfl,rfl,rfl⟩,h3⟩
 ·exact ⟨S3,hp,h3⟩
 ·exact JHv mix J0W (J56 xs h) h3
end
section
open Go
set_option maxHeartbeats 4000000
variable {G:Nat → Option AV}
attribute [local irreducible] sha
attribute [local irreducible] Rd.sig Rd.sig' Rd.blk Rd.blk' Rd.inn Rd.inn' Rd.dg Rd.dg' Rd.rep Rd.rep' repR
def Sig.small (s:Sig) : Prop := s.op.length ≤ 1000 ∧ s.sh.length ≤ 1000 ∧ s.path.length ≤ 1000
def Cert.small (x:Cert) : Prop := x.votes.length ≤ 1000 ∧ ∀ v ∈ x.votes,v.sig.small
def Lnk.small (l:Lnk) : Prop := l.blk.qs.length ≤ 1000 ∧ l.cert.small ∧ l.conf.ms.length ≤ 1000
theorem JSh (r:Rd) : r.sig.small := by
 unfold Rd.sig Sig.small
 split
 ·simp [Sig.zero]
 ·have:=r.sN_eq
  simp [Rd.sig0]
  omega
theorem JP8 (r:Rd) : (voteF.rd r).sig.small := by
 rw [JQc]
 split
 ·simp [Vote.zero,Sig.zero,Sig.small]
 ·exact JSh _
theorem JJM (r:Rd) : r.blk.qs.length ≤ 1000 := by
 have:=r.blkN_eq
 unfold Rd.blk
 split
 ·simp [Blk.zero]
 ·simp [Rd.blk0]; omega
theorem JPC (r:Rd) : (planF.rd r).sig.small ∧ (planF.rd r).blk.qs.length ≤ 1000 := by
 rw [JQi]
 split
 ·simp [Plan.zero,Sig.zero,Sig.small,Blk.zero]
 ·exact ⟨JSh _,JJM _⟩
theorem repR_all {α:Type} {F:Fmt α} {p:α → Prop} (h:∀ r,p (F.rd r)) (r:Rd) : ∀ n,∀ a ∈ (repR (fun _=>F) r n).1,p a
 | 0=>by simp [repR]
 | n + 1=>by
   simp only [repR,List.mem_append,List.mem_singleton]
   rintro a (ha | rfl)
   ·exact repR_all h r n a ha
   ·exact h _
theorem JLs (r:Rd) : (certF.rd r).small := by
 rw [JQE]
 split
 ·simp [Cert.zero,Cert.small]
 ·have:=count10 (r.inn' 0 1024)
  refine ⟨?_,repR_all (F:=voteF) (p:=fun v=>v.sig.small) JP8 _ _⟩
  show (repR (fun _=>voteF) ((r.inn' 0 1024).inn' 1 10) r.certN).1.length ≤ 1000
  rw [JQ]
  unfold Rd.certN
  omega
theorem JXT (r:Rd) : (confF.rd r).ms.length ≤ 1000 := by
 rw [JRg]
 split
 ·simp [Conf.zero]
 ·have:=count10 (r.inn' 0 1073741824)
  show (repR memF ((r.inn' 0 1073741824).inn' 1 10) r.confN).1.length ≤ 1000
  rw [JQ]
  unfold Rd.confN
  omega
theorem JWz (r:Rd) : (linkF.rd r).small := by
 rw [JQv]
 split
 ·exact ⟨by simp [Lnk.zero,Blk.zero],by simp [Lnk.zero,Cert.zero,Cert.small],by simp [Lnk.zero,Conf.zero]⟩
 ·exact ⟨JJM _,JLs _,JXT _⟩
theorem JZz (r:Rd) : r.rep.vals.length ≤ 1000 := by
 have:=r.repN_eq
 unfold Rd.rep
 split
 ·simp [Rep.zero]
 ·simp [Rd.rep0]; omega
end
end Go.Proofs.YtlajjoekbcjfnaaGreatDoor.WL
