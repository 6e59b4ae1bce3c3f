import Derived.Test.YtlajjoekbcjfnaaGreatDoorWm18
import Derived.Test.YtlajjoekbcjfnaaGreatDoorRows
import Derived.ProofKit
import Derived.LaidMore
import Derived.Lib.LaidTab
namespace Go.Proofs.YtlajjoekbcjfnaaGreatDoor.WL
set_option linter.all false
section
open Go
set_option maxHeartbeats 4000000
def Reps (l:List Rep) : List AV := l.map Rep.avS
@[simp] theorem JU4 (l:List Rep) : (Reps l).length = l.length := by simp [Reps]
@[simp] theorem J38 (l:List Rep) : closeds (Reps l) = true := by simp [Reps,closeds_all]
@[simp] theorem J8d (n:Nat) (l:List Rep) : (Reps l)[n]? = (l[n]?).map Rep.avS := by simp [Reps]
@[simp] theorem J25 (n:Nat) (l:List Rep) (h:n < (Reps l).length) : (Reps l)[n] = Rep.avS (l[n]'(by simpa [Reps] using h)) := by simp [Reps]
@[simp] theorem J3T (a b:List Rep) : Reps a ++ Reps b = Reps (a ++ b) := by simp [Reps]
@[simp] theorem J6a (n:Nat) (a:List Rep) : (Reps a).drop n = Reps (a.drop n) := by simp [Reps]
@[simp] theorem J7o (n:Nat) (a:List Rep) : (Reps a).take n = Reps (a.take n) := by simp [Reps]
@[simp] theorem J8V : Reps [] = [] := (rfl)
def callA (a:Rep) : Cal := ⟨0,Req.zero,0,[],0,a⟩
def callO (o:Req) : Cal := ⟨0,o,0,[],0,Rep.zero⟩
theorem J09 {a:Rep} (h:a.In) : (callA a).In := ⟨by simp [callA,W64],by constructor <;> simp [callA,Req.zero,W64,Chg.zero],by simp [callA,W64],by simp [callA],by simp [callA,W64],h⟩
theorem J07 {o:Req} (h:o.In) : (callO o).In := ⟨by simp [callO,W64],h,by simp [callO,W64],by simp [callO],by simp [callO,W64],by simp [callO,Rep.zero,W64],by simp [callO,Rep.zero,W64],by simp [callO,Rep.zero,W64],by simp [callO,Rep.zero]⟩
theorem JQ1 {c:Conf} {cs:List Cal} (h:great22 c cs = false) : c.ms.length ≤ 20 ∧ cs.length ≤ 60 ∧ sum22 cs ≤ 131072 ∧ ∀ a ∈ cs,a.a.vals.length ≤ 300 := by
 unfold great22 at h
 simp only [Bool.or_eq_false_iff,decide_eq_false_iff_not] at h
 obtain ⟨⟨⟨h1,h2⟩,h3⟩,h4⟩:=h
 refine ⟨by omega,by omega,by omega,fun a ha=>?_⟩
 have:=List.any_eq_false.1 h3 a ha
 simpa using this
theorem JOq {c:Conf} {x:Cal} (h:great22 c [x] = false) : x.frame.length + x.op.key.length + x.op.val.length + x.op.old.length + tot x.a.vals ≤ 131072 ∧ x.a.vals.length ≤ 300 := by
 obtain ⟨_,_,h3,h4⟩:=JQ1 h
 refine ⟨?_,h4 x (List.mem_singleton.2 rfl)⟩
 have e:sum22 [x] = x.size + tot x.a.vals:=by simp [sum22]
 rw [e] at h3
 exact h3
theorem J0V {c:Conf} {cs:List Cal} (h:great22 c cs = false) {i:Nat} (hi:i < cs.length) : cs[i].frame.length + tot cs[i].a.vals ≤ 131072 ∧ cs[i].a.vals.length ≤ 300 := by
 obtain ⟨_,_,h3,h4⟩:=JQ1 h
 refine ⟨?_,h4 _ (List.getElem_mem hi)⟩
 have h1:=JPE cs hi
 have h2:=JVM cs (i + 1)
 simp only [Cal.size] at h1
 omega
theorem JYB (n:Nat) : faults n ≤ n := by unfold faults; omega
theorem J1s (ms:List Mem) (id:Int) : -1 ≤ idxOf ms id ∧ idxOf ms id < (ms.length:Int) + 1 := by
 rcases JLh ms id with h | ⟨k,h1,h2⟩ <;> omega
attribute [local irreducible] sha comp hb checkK decM decE encB encE idxOf Conf.good Req.good great22 faults ansR
theorem JZC {first:Conf} {right:List Rep} (op:Req) (hg:first.good = true) : InvB first right (askC (cli0 9 first) op) (List.replicate right.length false) 0 := by
 obtain ⟨h1,h2⟩:=JRi hg
 refine ⟨⟨h1,by show first.ms.length ≤ 1000; omega,by simp [askC],by simp [askC,cli0],by simp [askC],⟨by simp [askC,cli0,Rep.zero,Rep.bytes,Jh,txts],by simp [askC,cli0,Rep.zero]⟩⟩,⟨rfl,by simp [askC],by simp [askC],fun k hk=>?_⟩,⟨by simp [askC],fun h=>by cases h⟩,rfl,by simp [askC,askQ,cli0,Req.zero],rfl,by simp,by simp [askC,cli0]⟩
 rw [List.getElem?_replicate] at hk
 split at hk <;> cases hk
theorem JGm (first:Conf) (op:Req) (right:List Rep) (ps:List Cal) (hc:∀ m ∈ first.ms,W64 m.height) (ho:op.In) (hr:∀ a ∈ right,a.In) (hrl:right.length ≤ 4000000000000) (hf:∀ a ∈ ps,a.In) (hl:ps.length ≤ 1000000000000) :
 Meets Tryz.prog Gt Jg0 [first.av,opA op,.sl 4 (Reps right),.sl 48 (Cals ps)] [] true (.v (.bool true)) []:=by
 refine Jc mix JAC ⟨by simp,by simp,by simp⟩ ?_
 have m2:=JpL (G:=Gt) first ps hf hl
 have m3:=JpL (G:=Gt) first [callO op] (fun a ha=>by
  obtain rfl:=List.mem_singleton.1 ha
  exact J07 ho) (by simp)
 have mg:=JRl (G:=Gt) first
 have hcal:Cals [callO op] = [.node [.v (.int .i64 0),opA op,.v (.int .i64 0),.v (.string (mkS [])),.v (.int .i64 0),Rep.zero.avS]]:=rfl
 have hzr:Rep.zero.avS = .node [.v (.int .i64 0),.v (.int .i64 0),.v (.int .i64 0),.sl 1 []]:=rfl
 rw [hcal,hzr] at m3
 have hfa:first.av = .node [.v (.int .i64 first.epoch),.sl 34 (Mems first.ms)]:=rfl
 have hcl:closeds (Cals ps) = true:=by simp
 have hrl2:closeds (Reps right) = true:=by simp
 rw [hfa] at m2 m3 mg
 simp [hfa]
 refine Ja JQ2 ?_ ?_
 ·simp
 simp
 refine Ja m2 ?_ ?_
 ·simp
 simp
 cases hg:great22 first ps
 case true =>
  simp
  refine Jb (.inr rfl) ?_
  simp
 simp
 refine Ja m3 ?_ ?_
 ·simp
 simp
 cases hg2:great22 first [callO op]
 case true =>
  simp
  refine Jb (.inr rfl) ?_
  simp
 simp
 refine Ja mg ?_ ?_
 ·simp
 simp
 cases hgd:first.good
 case false =>
  simp
  refine Jb (.inr rfl) ?_
  simp
 simp
 by_cases h20:(20:Int) < (right.length:Nat)
 ·simp [h20]
  refine Jb (.inr rfl) ?_
  simp
 simp [h20]
 clear m2 m3 mg hcal
 have hr20:right.length ≤ 20:=by omega
 refine go_up right.length (fun j (_:Unit)=>∀ i (h:i < right.length),i < j → great22 first [callA right[i]] = false) (fun j _ c=>⟨[(2,.sl 4 (Reps right)),(3,.sl 48 (Cals ps)),(4,.ptr 4 c 0),(5,.ptr 5 c 0),(50,.sl 4 (Reps right)),(51,.v (.int .i64 (right.length:Nat))),(52,.v (.int .i64 (j:Nat)))],
  [(4,.var c (.node [.v (.int .i64 first.epoch),.sl 34 (Mems first.ms)])),(5,.var c (opA op))],c + 1⟩) () _ (Weak.re (by simp [hcl,hrl2])) (fun i _ h=>by omega) ?_ ?_
 ·rintro j _ c hj hinv
  have hw:IntKind.i64.wrap ((j:Int) + 1) = ((j + 1:Nat):Int):=Jf (by omega)
  obtain ⟨x,hx⟩:∃ x,right[j] = x:=⟨_,rfl⟩
  have hxi:x.In:=hx ▸ hr right[j] (List.getElem_mem hj)
  have m4:=JpL (G:=Gt) first [callA x] (fun a ha=>by
   obtain rfl:=List.mem_singleton.1 ha
   exact J09 hxi) (by simp)
  have hca:Cals [callA x] = [.node [.v (.int .i64 0),.node [.v (.int .i64 0),.v (.string (mkS [])),.v (.string (mkS [])),.v (.string (mkS [])),.node [.v (.int .i64 0),.v (.int .i64 0),.v (.int .i64 0),.node [.arr 1 (B (zeros 32)),.v (.int .i64 0)]]],.v (.int .i64 0),.v (.string (mkS [])),.v (.int .i64 0),x.avS]]:=rfl
  rw [hca,hfa] at m4
  simp [hj,hx]
  refine Ja m4 ?_ ?_
  ·simp
  simp
  cases hgx:great22 first [callA x]
  case true =>
   simp
   refine Jb (.inr rfl) ?_
   simp
  simp [hw]
  refine ⟨(),_,Weak.re (by simp [hcl,hrl2]),fun i h hij=>?_⟩
  rcases (show i < j ∨ i = j by omega) with hlt | rfl
  ·exact hinv i h hlt
  ·rw [hx]; exact hgx
 rintro _ c hgr
 have hrg:∀ (k:Nat) (b:Rep),right[k]? = some b → (Reps right)[k]? = some (.node [.v (.int .i64 b.client),.v (.int .i64 b.num),.v (.int .i64 b.code),.sl 1 (Strs b.vals)]):=fun k b h=>by
  unfold Reps
  rw [List.getElem?_map,h]
  rfl
 have hrn:(Reps right).length = right.length:=JU4 right
 have hre2:∀ (k:Nat) (h:k < (Reps right).length) (b:Rep),right[k]? = some b → (Reps right)[k] = .node [.v (.int .i64 b.client),.v (.int .i64 b.num),.v (.int .i64 b.code),.sl 1 (Strs b.vals)]:=fun k h b hb=>by
  have:=hrg k b hb
  rw [List.getElem?_eq_getElem h] at this
  exact Option.some.inj this
 generalize Reps right = rs at *
 have hms:=JRi hgd
 have m6:=JPM (G:=Gt) 9 first (by omega) (by omega) hgd (by omega)
 rw [hfa] at m6
 obtain ⟨g1,g2⟩:=JOq hg2
 obtain ⟨_,g3,_,_⟩:=JQ1 hg
 have hRf:∀ a ∈ right,(rightA a).Fits:=fun a ha=>by
  obtain ⟨i,hi,rfl⟩:=List.getElem_of_mem ha
  obtain ⟨k1,k2⟩:=JOq (hgr i hi hi)
  exact JUc (hr _ ha) k2 (by simp only [callA] at k1; omega)
 have hRl:∀ a ∈ right,(rightA a).bytes.length ≤ 900000 ∧ (rightA a).vals.length ≤ 1000000:=fun a ha=>by
  obtain ⟨i,hi,rfl⟩:=List.getElem_of_mem ha
  obtain ⟨k1,k2⟩:=JOq (hgr i hi hi)
  rw [JYr]
  simp only [callA,rightA] at *
  omega
 simp only [callO] at g1
 have hi0:=JZC (right:=right) op hgd
 have ma:∀ hq:(askQ (cli0 9 first) op).good = true,_:=fun hq=>JSS (G:=Gt) (cli0 9 first) op rfl ⟨by simp [cli0,Req.zero],by simp [cli0,Req.zero]⟩ hq (by rw [Req.bytes_len]; dsimp only [askQ]; omega)
 have mb:∀ hq:(askQ (cli0 9 first) op).good = false,_:=fun hq=>J3l (G:=Gt) (cli0 9 first) op rfl ⟨by simp [cli0,Req.zero],by simp [cli0,Req.zero]⟩ hq
 have hPc:=JMg (mailQ (askQ (cli0 9 first) op))
 have ht:(cli0 9 first).told = []:=rfl
 have hb0:(cli0 9 first).base = 0:=rfl
 have hre:repE 0 [] = []:=rfl
 generalize askC (cli0 9 first) op = c1 at *
 generalize postL (mailQ (askQ (cli0 9 first) op)) = P at *
 generalize hq0:(askQ (cli0 9 first) op).good = q0 at *
 generalize cli0 9 first = c0 at *
 have mf:=JQG (G:=Gt) first.ms.length (by omega)
 have hmk:∀ (m:Nat → Option Loc) (g d:Nat),step (.mk 1 1 (.v (.bool false))) [.v (.int .i64 (right.length:Nat)),.v (.int .i64 (right.length:Nat))] m g d = some (.row d 1 g 0 right.length,[(d,some (.rows g 1 (Bools (List.replicate right.length false))))]):=fun m g d=>by
  rw [J3S 1 1 _ _ _ (right.length:Nat) (by simp only [maxLen,Int.toNat_natCast]; omega)]
  simp [rep,Bools]
 simp
 refine Ja m6 ?_ ?_
 ·simp
 simp
 cases q0
 case false =>
  have mb:=mb rfl
  rw [← opA_V] at mb
  refine Ja mb ?_ ?_
  ·simp [cliM,cliV,cliT,ht,hb0,hre]
  simp [cliM,cliV,cliT]
  refine Jb (.inr rfl) ?_
  simp
 have ma:=ma rfl
 rw [← opA_V] at ma
 refine Ja ma ?_ ?_
 ·simp [cliM,cliV,cliT,ht,hb0,hre]
 simp [cliM,cliV,cliT,hPc]
 refine Ja mf ?_ ?_
 ·simp
 simp [hmk,hrn]
 refine go_up ps.length (fun i (a:Cli × List Bool)=>InvB first right a.1 a.2 i) (fun i a c=>⟨[(2,.sl 4 rs),(4,.ptr 4 c 0),(11,.ptr 1000 c 0),(13,.v (.int .i64 (faults first.ms.length:Nat))),(14,.row 14 1 c 0 right.length),(84,.sl 48 (Cals ps)),(85,.v (.int .i64 (ps.length:Nat))),(86,.v (.int .i64 (i:Nat)))],
  [(4,.var c (.node [.v (.int .i64 first.epoch),.sl 34 (Mems first.ms)])),(14,.rows c 1 (Bools a.2)),(1000,.var c (cliV c a.1)),(1001,cliT c a.1)],c + 1⟩) (c1,List.replicate right.length false) _ (Weak.re (by simp [hcl,hrl2,hrn,cliV,cliT])) hi0 ?_ ?_
 ·clear m6 mf hmk hi0 hPc ht hb0 hre
  rintro i ⟨cl,told⟩ c hi hinv
  dsimp only at hinv
  obtain ⟨x,hx⟩:∃ x,ps[i] = x:=⟨_,rfl⟩
  have hget:(Cals ps)[i]? = some x.av:=by rw [← hx]; unfold Cals; rw [List.getElem?_map,List.getElem?_eq_getElem hi]; rfl
  have hxf:x.In:=hx ▸ hf ps[i] (List.getElem_mem hi)
  obtain ⟨hxl,hxv⟩:=J0V hg hi
  rw [hx] at hxl hxv
  have hw:IntKind.i64.wrap ((i:Int) + 1) = ((i + 1:Nat):Int):=Jf (by omega)
  have hii:(i:Int) < (ps.length:Nat):=by omega
  have hi60:i < 60:=by omega
  have hav:x.av = .node [.v (.int .i64 x.kind),opA x.op,.v (.int .i64 x.src),.v (.string (mkS x.frame)),.v (.int .i64 x.n),.node [.v (.int .i64 x.a.client),.v (.int .i64 x.a.num),.v (.int .i64 x.a.code),.sl 1 (Strs x.a.vals)]]:=rfl
  rw [hav] at hget
  have mp:=JRt (G:=Gt) first x.src (by omega)
  rw [hfa] at mp
  have hcalm:cl.first.calm:=by rw [hinv.first]; exact ⟨by omega,hc⟩
  have hfl:(faults first.ms.length:Int) ≤ 1000000:=by have:=JYB first.ms.length; omega
  have hixl:=J1s first.ms x.src
  generalize Cals ps = cs at *
  generalize hix:idxOf first.ms x.src = ix at *
  generalize hfn:faults first.ms.length = fn at *
  simp [hi,hii,hget]
  refine Ja mp ?_ ?_
  ·simp
  simp
  by_cases hge:(fn:Int) ≤ ix
  ·obtain ⟨k,hk⟩:∃ k:Nat,ix = (fn:Int) + (k:Int):=⟨(ix - fn).toNat,by omega⟩
   have hw3:IntKind.i64.wrap (ix - (fn:Int)) = (k:Int):=by rw [Jp (by omega)]; omega
   by_cases hkr:right.length ≤ k
   ·have hkr':(right.length:Int) ≤ (k:Int):=by omega
    simp [hge,hw3,hkr',hkr,hw,hrn]
    exact ⟨(cl,told),_,Weak.re (by simp [cliV,cliT,hcl,hrl2]),hinv.stay⟩
   ·have hkr':¬ (right.length:Int) ≤ (k:Int):=by omega
    have hkl:k < right.length:=by omega
    have hkt:k < told.length:=by rw [hinv.len]; exact hkl
    obtain ⟨a,ha⟩:∃ a,right[k] = a:=⟨_,rfl⟩
    have ham:a ∈ right:=ha ▸ List.getElem_mem hkl
    have hae:right[k]? = some a:=by rw [List.getElem?_eq_getElem hkl,ha]
    have hbv:=hre2 k (by omega) a hae
    have m9:=JGC (G:=Gt) (rightA a) (hRl a ham).1 (hRl a ham).2
    have hyl:=JY7 (rightA a)
    have i2:=hinv.tell hae
    have hb:((faults first.ms.length:Nat):Int) ≤ idxOf first.ms x.src → ∃ (j:Nat) (b:Rep),(told.set k (decide (ansR a ≠ [])))[j]? = some (decide (ansR b ≠ [])) ∧ right[j]? = some b ∧ ansR a = ansR b:=fun _=>⟨k,a,by rw [List.getElem?_set,if_pos rfl,if_pos hkt],hae,rfl⟩
    have hv2:(rightA a).avS = .node [.v (.int .i64 9),.v (.int .i64 1),.v (.int .i64 a.code),.sl 1 (Strs a.vals)]:=rfl
    have hya:encB (ansM (rightA a)) = ansR a:=by unfold ansR; rfl
    rw [hv2,hya] at m9
    rw [hya] at hyl
    generalize ansR a = y at *
    simp [hge,hw3,hkr',hkr,hkl,hbv,hrn]
    have hie:decide (y ≠ []) = !y.isEmpty:=by cases y <;> rfl
    obtain ⟨tl,htle⟩:∃ tl,told.set k (!y.isEmpty) = tl:=⟨_,rfl⟩
    rw [hie,htle] at i2 hb
    have htls:(Bools told).set k (.v (.bool (!y.isEmpty))) = Bools tl:=by
     rw [← htle]
     unfold Bools
     rw [List.map_set]
    refine Ja m9 ?_ ?_
    ·simp
    simp [hkt,hkl,htls]
    have md:=Jhl (G:=Gt) y (by omega)
    have mh:=Jkn cl x.src y hinv.ok (by have:=hinv.base; omega) (by omega) hcalm
    have fy:y.length ≤ maxLen:=by simp only [maxLen]; omega
    have htl:(tl).length = right.length:=i2.len
    have hbc:closeds (Bools (tl)) = true:=JvT _
    have hwq:=hw
    try simp [fy]
    by_cases h8:decE y = 0 ∧ (decM y).kind = 8
    ·obtain ⟨h8a,h8b⟩:=h8
     refine Ja md ?_ ?_
     ·simp
     simp [h8a,h8b,Mail.av,hw]
     exact ⟨(cl,tl),_,Weak.re (by simp [cliV,cliT,hcl,hrl2]),i2.stay⟩
    ·obtain ⟨hok2,hnum2,hcase⟩:=i2.hear hi60 hRf x.src (by omega) h8 hb
     generalize hearC cl x.src y = c2 at *
     by_cases he:decE y = 0
     ·have hk8:(decM y).kind ≠ 8:=fun e=>h8 ⟨he,e⟩
      refine Ja md ?_ ?_
      ·simp
      simp [he,hk8,Mail.av]
      refine Ja mh ?_ ?_
      ·simp [cliM,cliV,cliT]
      simp [cliM,cliV,cliT]
      rcases hcase with ⟨hop,hinv2⟩ | ⟨hop,j0,a0,k1,k2,k3⟩
      ·have m6:=JkO (G:=Gt) c2 (.inl hop)
       rw [hzr] at m6
       refine Ja m6 ?_ ?_
       ·simp [cliM,cliV,cliT]
       simp [cliM,cliV,cliT]
       exact ⟨(c2,tl),_,Weak.re (by simp [cliV,cliT,hcl,hrl2,hwq]),hinv2⟩
      ·have m6:=JkH (G:=Gt) c2 hop (by rw [hnum2]; decide) hok2.rep.vals
       have hrv:c2.rep.avS = .node [.v (.int .i64 c2.rep.client),.v (.int .i64 c2.rep.num),.v (.int .i64 c2.rep.code),.sl 1 (Strs c2.rep.vals)]:=rfl
       have hvl:=hok2.rep.vals
       rw [hrv] at m6
       refine Ja m6 ?_ ?_
       ·simp [cliM,cliV,cliT,hrv]
       simp [cliM,cliV,cliT,hrv]
       refine go_up right.length (fun q (_:Unit)=>∀ i (h:i < right.length),i < q → (tl)[i]? = some true → c2.rep.same (rightA right[i]) = false) (fun q _ c=>⟨[(14,.row 14 1 c 0 right.length),(24,.ptr 24 c 0),(153,.sl 4 rs),(154,.v (.int .i64 (right.length:Nat))),(155,.v (.int .i64 (q:Nat)))],
        [(14,.rows c 1 (Bools (tl))),(24,.var c (.node [.v (.int .i64 c2.rep.client),.v (.int .i64 c2.rep.num),.v (.int .i64 c2.rep.code),.sl 1 (Strs c2.rep.vals)]))],c + 1⟩) () _ (Weak.re (by simp [hrl2,hrn])) (fun i _ h=>by omega) ?_ ?_
       ·rintro q _ c hq hno
        have hwq2:IntKind.i64.wrap ((q:Int) + 1) = ((q + 1:Nat):Int):=Jf (by omega)
        have hqt:q < (tl).length:=by rw [htl]; exact hq
        obtain ⟨b,hb⟩:∃ b,right[q] = b:=⟨_,rfl⟩
        have hbv:=hrg q b (by rw [List.getElem?_eq_getElem hq,hb])
        have mS:=JcU (G:=Gt) c2.rep (rightA b) (by omega)
        have hbr:(rightA b).avS = .node [.v (.int .i64 9),.v (.int .i64 1),.v (.int .i64 b.code),.sl 1 (Strs b.vals)]:=rfl
        rw [hrv,hbr] at mS
        obtain ⟨t,ht⟩:∃ t,(tl)[q]? = some t:=⟨_,List.getElem?_eq_getElem hqt⟩
        have hbt:(Bools (tl))[q]? = some (.v (.bool t)):=by rw [Jpm,ht]; rfl
        have hst:∀ i (h:i < right.length),i < q + 1 → (t = false ∨ c2.rep.same (rightA b) = false) → (tl)[i]? = some true → c2.rep.same (rightA right[i]) = false:=fun i h hiq hor hh=>by
         rcases (show i < q ∨ i = q by omega) with hlt | rfl
         ·exact hno i h hlt hh
         ·rw [ht] at hh
          rw [hb]
          rcases hor with rfl | hor
          ·exact absurd hh (by simp)
          ·exact hor
        generalize Bools (tl) = bt at *
        cases t
        ·simp [hq,hbv,hbt,hwq2]
         exact ⟨(),_,Weak.re (by simp [hrl2,hbc]),fun i h hiq=>hst i h hiq (.inl rfl)⟩
        ·simp [hq,hbv,hbt,hwq2]
         refine Ja mS ?_ ?_
         ·simp
         simp
         cases hs:c2.rep.same (rightA b)
         ·simp [hwq2]
          exact ⟨(),_,Weak.re (by simp [hrl2,hbc]),fun i h hiq=>hst i h hiq (.inr hs)⟩
         ·simp
          refine Jb (.inr rfl) ?_
          simp
       ·rintro _ c hno
        have hj:=(List.getElem?_eq_some_iff.1 k2)
        obtain ⟨hj1,hj2⟩:=hj
        have:=hno j0 hj1 hj1 k1
        rw [k3,hj2,JjR] at this
        cases this
     ·have he':=he
      refine Ja md ?_ ?_
      ·simp
      simp [he',Mail.av]
      refine Ja mh ?_ ?_
      ·simp [cliM,cliV,cliT]
      simp [cliM,cliV,cliT]
      rcases hcase with ⟨hop,hinv2⟩ | ⟨hop,j0,a0,k1,k2,k3⟩
      ·have m6:=JkO (G:=Gt) c2 (.inl hop)
       rw [hzr] at m6
       refine Ja m6 ?_ ?_
       ·simp [cliM,cliV,cliT]
       simp [cliM,cliV,cliT]
       exact ⟨(c2,tl),_,Weak.re (by simp [cliV,cliT,hcl,hrl2,hwq]),hinv2⟩
      ·have m6:=JkH (G:=Gt) c2 hop (by rw [hnum2]; decide) hok2.rep.vals
       have hrv:c2.rep.avS = .node [.v (.int .i64 c2.rep.client),.v (.int .i64 c2.rep.num),.v (.int .i64 c2.rep.code),.sl 1 (Strs c2.rep.vals)]:=rfl
       have hvl:=hok2.rep.vals
       rw [hrv] at m6
       refine Ja m6 ?_ ?_
       ·simp [cliM,cliV,cliT,hrv]
       simp [cliM,cliV,cliT,hrv]
       refine go_up right.length (fun q (_:Unit)=>∀ i (h:i < right.length),i < q → (tl)[i]? = some true → c2.rep.same (rightA right[i]) = false) (fun q _ c=>⟨[(14,.row 14 1 c 0 right.length),(24,.ptr 24 c 0),(153,.sl 4 rs),(154,.v (.int .i64 (right.length:Nat))),(155,.v (.int .i64 (q:Nat)))],
        [(14,.rows c 1 (Bools (tl))),(24,.var c (.node [.v (.int .i64 c2.rep.client),.v (.int .i64 c2.rep.num),.v (.int .i64 c2.rep.code),.sl 1 (Strs c2.rep.vals)]))],c + 1⟩) () _ (Weak.re (by simp [hrl2,hrn])) (fun i _ h=>by omega) ?_ ?_
       ·rintro q _ c hq hno
        have hwq2:IntKind.i64.wrap ((q:Int) + 1) = ((q + 1:Nat):Int):=Jf (by omega)
        have hqt:q < (tl).length:=by rw [htl]; exact hq
        obtain ⟨b,hb⟩:∃ b,right[q] = b:=⟨_,rfl⟩
        have hbv:=hrg q b (by rw [List.getElem?_eq_getElem hq,hb])
        have mS:=JcU (G:=Gt) c2.rep (rightA b) (by omega)
        have hbr:(rightA b).avS = .node [.v (.int .i64 9),.v (.int .i64 1),.v (.int .i64 b.code),.sl 1 (Strs b.vals)]:=rfl
        rw [hrv,hbr] at mS
        obtain ⟨t,ht⟩:∃ t,(tl)[q]? = some t:=⟨_,List.getElem?_eq_getElem hqt⟩
        have hbt:(Bools (tl))[q]? = some (.v (.bool t)):=by rw [Jpm,ht]; rfl
        have hst:∀ i (h:i < right.length),i < q + 1 → (t = false ∨ c2.rep.same (rightA b) = false) → (tl)[i]? = some true → c2.rep.same (rightA right[i]) = false:=fun i h hiq hor hh=>by
         rcases (show i < q ∨ i = q by omega) with hlt | rfl
         ·exact hno i h hlt hh
         ·rw [ht] at hh
          rw [hb]
          rcases hor with rfl | hor
          ·exact absurd hh (by simp)
          ·exact hor
        generalize Bools (tl) = bt at *
        cases t
        ·simp [hq,hbv,hbt,hwq2]
         exact ⟨(),_,Weak.re (by simp [hrl2,hbc]),fun i h hiq=>hst i h hiq (.inl rfl)⟩
        ·simp [hq,hbv,hbt,hwq2]
         refine Ja mS ?_ ?_
         ·simp
         simp
         cases hs:c2.rep.same (rightA b)
         ·simp [hwq2]
          exact ⟨(),_,Weak.re (by simp [hrl2,hbc]),fun i h hiq=>hst i h hiq (.inr hs)⟩
         ·simp
          refine Jb (.inr rfl) ?_
          simp
       ·rintro _ c hno
        have hj:=(List.getElem?_eq_some_iff.1 k2)
        obtain ⟨hj1,hj2⟩:=hj
        have:=hno j0 hj1 hj1 k1
        rw [k3,hj2,JjR] at this
        cases this
  ·have i2:=hinv
   by_cases k3:x.kind = 3
   ·obtain ⟨a2,ha2⟩:∃ a2:Rep,a2 = ⟨9,1,x.a.code,x.a.vals⟩:=⟨_,rfl⟩
    have m9:=JGC (G:=Gt) a2 (by rw [ha2,JYr]; dsimp only; omega) (by rw [ha2]; dsimp only; omega)
    have hyl:=JY7 a2
    have hv2:a2.avS = .node [.v (.int .i64 9),.v (.int .i64 1),.v (.int .i64 x.a.code),.sl 1 (Strs x.a.vals)]:=by rw [ha2]; rfl
    rw [hv2] at m9
    generalize encB (ansM a2) = y at *
    have hb:((faults first.ms.length:Nat):Int) ≤ idxOf first.ms x.src → ∃ (j:Nat) (b:Rep),told[j]? = some (decide (ansR b ≠ [])) ∧ right[j]? = some b ∧ y = ansR b:=fun h=>absurd (by rw [hix,hfn] at h; exact h) hge
    simp [hge,k3]
    refine Ja m9 ?_ ?_
    ·simp
    simp
    have md:=Jhl (G:=Gt) y (by omega)
    have mh:=Jkn cl x.src y hinv.ok (by have:=hinv.base; omega) (by omega) hcalm
    have fy:y.length ≤ maxLen:=by simp only [maxLen]; omega
    have htl:(told).length = right.length:=i2.len
    have hbc:closeds (Bools (told)) = true:=JvT _
    have hwq:=hw
    try simp [fy]
    by_cases h8:decE y = 0 ∧ (decM y).kind = 8
    ·obtain ⟨h8a,h8b⟩:=h8
     refine Ja md ?_ ?_
     ·simp
     simp [h8a,h8b,Mail.av,hw]
     exact ⟨(cl,told),_,Weak.re (by simp [cliV,cliT,hcl,hrl2]),i2.stay⟩
    ·obtain ⟨hok2,hnum2,hcase⟩:=i2.hear hi60 hRf x.src (by omega) h8 hb
     generalize hearC cl x.src y = c2 at *
     by_cases he:decE y = 0
     ·have hk8:(decM y).kind ≠ 8:=fun e=>h8 ⟨he,e⟩
      refine Ja md ?_ ?_
      ·simp
      simp [he,hk8,Mail.av]
      refine Ja mh ?_ ?_
      ·simp [cliM,cliV,cliT]
      simp [cliM,cliV,cliT]
      rcases hcase with ⟨hop,hinv2⟩ | ⟨hop,j0,a0,k1,k2,k3⟩
      ·have m6:=JkO (G:=Gt) c2 (.inl hop)
       rw [hzr] at m6
       refine Ja m6 ?_ ?_
       ·simp [cliM,cliV,cliT]
       simp [cliM,cliV,cliT]
       exact ⟨(c2,told),_,Weak.re (by simp [cliV,cliT,hcl,hrl2,hwq]),hinv2⟩
      ·have m6:=JkH (G:=Gt) c2 hop (by rw [hnum2]; decide) hok2.rep.vals
       have hrv:c2.rep.avS = .node [.v (.int .i64 c2.rep.client),.v (.int .i64 c2.rep.num),.v (.int .i64 c2.rep.code),.sl 1 (Strs c2.rep.vals)]:=rfl
       have hvl:=hok2.rep.vals
       rw [hrv] at m6
       refine Ja m6 ?_ ?_
       ·simp [cliM,cliV,cliT,hrv]
       simp [cliM,cliV,cliT,hrv]
       refine go_up right.length (fun q (_:Unit)=>∀ i (h:i < right.length),i < q → (told)[i]? = some true → c2.rep.same (rightA right[i]) = false) (fun q _ c=>⟨[(14,.row 14 1 c 0 right.length),(24,.ptr 24 c 0),(153,.sl 4 rs),(154,.v (.int .i64 (right.length:Nat))),(155,.v (.int .i64 (q:Nat)))],
        [(14,.rows c 1 (Bools (told))),(24,.var c (.node [.v (.int .i64 c2.rep.client),.v (.int .i64 c2.rep.num),.v (.int .i64 c2.rep.code),.sl 1 (Strs c2.rep.vals)]))],c + 1⟩) () _ (Weak.re (by simp [hrl2,hrn])) (fun i _ h=>by omega) ?_ ?_
       ·rintro q _ c hq hno
        have hwq2:IntKind.i64.wrap ((q:Int) + 1) = ((q + 1:Nat):Int):=Jf (by omega)
        have hqt:q < (told).length:=by rw [htl]; exact hq
        obtain ⟨b,hb⟩:∃ b,right[q] = b:=⟨_,rfl⟩
        have hbv:=hrg q b (by rw [List.getElem?_eq_getElem hq,hb])
        have mS:=JcU (G:=Gt) c2.rep (rightA b) (by omega)
        have hbr:(rightA b).avS = .node [.v (.int .i64 9),.v (.int .i64 1),.v (.int .i64 b.code),.sl 1 (Strs b.vals)]:=rfl
        rw [hrv,hbr] at mS
        obtain ⟨t,ht⟩:∃ t,(told)[q]? = some t:=⟨_,List.getElem?_eq_getElem hqt⟩
        have hbt:(Bools (told))[q]? = some (.v (.bool t)):=by rw [Jpm,ht]; rfl
        have hst:∀ i (h:i < right.length),i < q + 1 → (t = false ∨ c2.rep.same (rightA b) = false) → (told)[i]? = some true → c2.rep.same (rightA right[i]) = false:=fun i h hiq hor hh=>by
         rcases (show i < q ∨ i = q by omega) with hlt | rfl
         ·exact hno i h hlt hh
         ·rw [ht] at hh
          rw [hb]
          rcases hor with rfl | hor
          ·exact absurd hh (by simp)
          ·exact hor
        generalize Bools (told) = bt at *
        cases t
        ·simp [hq,hbv,hbt,hwq2]
         exact ⟨(),_,Weak.re (by simp [hrl2,hbc]),fun i h hiq=>hst i h hiq (.inl rfl)⟩
        ·simp [hq,hbv,hbt,hwq2]
         refine Ja mS ?_ ?_
         ·simp
         simp
         cases hs:c2.rep.same (rightA b)
         ·simp [hwq2]
          exact ⟨(),_,Weak.re (by simp [hrl2,hbc]),fun i h hiq=>hst i h hiq (.inr hs)⟩
         ·simp
          refine Jb (.inr rfl) ?_
          simp
       ·rintro _ c hno
        have hj:=(List.getElem?_eq_some_iff.1 k2)
        obtain ⟨hj1,hj2⟩:=hj
        have:=hno j0 hj1 hj1 k1
        rw [k3,hj2,JjR] at this
        cases this
     ·have he':=he
      refine Ja md ?_ ?_
      ·simp
      simp [he',Mail.av]
      refine Ja mh ?_ ?_
      ·simp [cliM,cliV,cliT]
      simp [cliM,cliV,cliT]
      rcases hcase with ⟨hop,hinv2⟩ | ⟨hop,j0,a0,k1,k2,k3⟩
      ·have m6:=JkO (G:=Gt) c2 (.inl hop)
       rw [hzr] at m6
       refine Ja m6 ?_ ?_
       ·simp [cliM,cliV,cliT]
       simp [cliM,cliV,cliT]
       exact ⟨(c2,told),_,Weak.re (by simp [cliV,cliT,hcl,hrl2,hwq]),hinv2⟩
      ·have m6:=JkH (G:=Gt) c2 hop (by rw [hnum2]; decide) hok2.rep.vals
       have hrv:c2.rep.avS = .node [.v (.int .i64 c2.rep.client),.v (.int .i64 c2.rep.num),.v (.int .i64 c2.rep.code),.sl 1 (Strs c2.rep.vals)]:=rfl
       have hvl:=hok2.rep.vals
       rw [hrv] at m6
       refine Ja m6 ?_ ?_
       ·simp [cliM,cliV,cliT,hrv]
       simp [cliM,cliV,cliT,hrv]
       refine go_up right.length (fun q (_:Unit)=>∀ i (h:i < right.length),i < q → (told)[i]? = some true → c2.rep.same (rightA right[i]) = false) (fun q _ c=>⟨[(14,.row 14 1 c 0 right.length),(24,.ptr 24 c 0),(153,.sl 4 rs),(154,.v (.int .i64 (right.length:Nat))),(155,.v (.int .i64 (q:Nat)))],
        [(14,.rows c 1 (Bools (told))),(24,.var c (.node [.v (.int .i64 c2.rep.client),.v (.int .i64 c2.rep.num),.v (.int .i64 c2.rep.code),.sl 1 (Strs c2.rep.vals)]))],c + 1⟩) () _ (Weak.re (by simp [hrl2,hrn])) (fun i _ h=>by omega) ?_ ?_
       ·rintro q _ c hq hno
        have hwq2:IntKind.i64.wrap ((q:Int) + 1) = ((q + 1:Nat):Int):=Jf (by omega)
        have hqt:q < (told).length:=by rw [htl]; exact hq
        obtain ⟨b,hb⟩:∃ b,right[q] = b:=⟨_,rfl⟩
        have hbv:=hrg q b (by rw [List.getElem?_eq_getElem hq,hb])
        have mS:=JcU (G:=Gt) c2.rep (rightA b) (by omega)
        have hbr:(rightA b).avS = .node [.v (.int .i64 9),.v (.int .i64 1),.v (.int .i64 b.code),.sl 1 (Strs b.vals)]:=rfl
        rw [hrv,hbr] at mS
        obtain ⟨t,ht⟩:∃ t,(told)[q]? = some t:=⟨_,List.getElem?_eq_getElem hqt⟩
        have hbt:(Bools (told))[q]? = some (.v (.bool t)):=by rw [Jpm,ht]; rfl
        have hst:∀ i (h:i < right.length),i < q + 1 → (t = false ∨ c2.rep.same (rightA b) = false) → (told)[i]? = some true → c2.rep.same (rightA right[i]) = false:=fun i h hiq hor hh=>by
         rcases (show i < q ∨ i = q by omega) with hlt | rfl
         ·exact hno i h hlt hh
         ·rw [ht] at hh
          rw [hb]
          rcases hor with rfl | hor
          ·exact absurd hh (by simp)
          ·exact hor
        generalize Bools (told) = bt at *
        cases t
        ·simp [hq,hbv,hbt,hwq2]
         exact ⟨(),_,Weak.re (by simp [hrl2,hbc]),fun i h hiq=>hst i h hiq (.inl rfl)⟩
        ·simp [hq,hbv,hbt,hwq2]
         refine Ja mS ?_ ?_
         ·simp
         simp
         cases hs:c2.rep.same (rightA b)
         ·simp [hwq2]
          exact ⟨(),_,Weak.re (by simp [hrl2,hbc]),fun i h hiq=>hst i h hiq (.inr hs)⟩
         ·simp
          refine Jb (.inr rfl) ?_
          simp
       ·rintro _ c hno
        have hj:=(List.getElem?_eq_some_iff.1 k2)
        obtain ⟨hj1,hj2⟩:=hj
        have:=hno j0 hj1 hj1 k1
        rw [k3,hj2,JjR] at this
        cases this
   ·obtain ⟨y,hy⟩:∃ y,x.frame = y:=⟨_,rfl⟩
    have hb:((faults first.ms.length:Nat):Int) ≤ idxOf first.ms x.src → ∃ (j:Nat) (b:Rep),told[j]? = some (decide (ansR b ≠ [])) ∧ right[j]? = some b ∧ y = ansR b:=fun h=>absurd (by rw [hix,hfn] at h; exact h) hge
    rw [hy] at hxl
    simp [hge,k3,hy]
    have md:=Jhl (G:=Gt) y (by omega)
    have mh:=Jkn cl x.src y hinv.ok (by have:=hinv.base; omega) (by omega) hcalm
    have fy:y.length ≤ maxLen:=by simp only [maxLen]; omega
    have htl:(told).length = right.length:=i2.len
    have hbc:closeds (Bools (told)) = true:=JvT _
    have hwq:=hw
    try simp [fy]
    by_cases h8:decE y = 0 ∧ (decM y).kind = 8
    ·obtain ⟨h8a,h8b⟩:=h8
     refine Ja md ?_ ?_
     ·simp
     simp [h8a,h8b,Mail.av,hw]
     exact ⟨(cl,told),_,Weak.re (by simp [cliV,cliT,hcl,hrl2]),i2.stay⟩
    ·obtain ⟨hok2,hnum2,hcase⟩:=i2.hear hi60 hRf x.src (by omega) h8 hb
     generalize hearC cl x.src y = c2 at *
     by_cases he:decE y = 0
     ·have hk8:(decM y).kind ≠ 8:=fun e=>h8 ⟨he,e⟩
      refine Ja md ?_ ?_
      ·simp
      simp [he,hk8,Mail.av]
      refine Ja mh ?_ ?_
      ·simp [cliM,cliV,cliT]
      simp [cliM,cliV,cliT]
      rcases hcase with ⟨hop,hinv2⟩ | ⟨hop,j0,a0,k1,k2,k3⟩
      ·have m6:=JkO (G:=Gt) c2 (.inl hop)
       rw [hzr] at m6
       refine Ja m6 ?_ ?_
       ·simp [cliM,cliV,cliT]
       simp [cliM,cliV,cliT]
       exact ⟨(c2,told),_,Weak.re (by simp [cliV,cliT,hcl,hrl2,hwq]),hinv2⟩
      ·have m6:=JkH (G:=Gt) c2 hop (by rw [hnum2]; decide) hok2.rep.vals
       have hrv:c2.rep.avS = .node [.v (.int .i64 c2.rep.client),.v (.int .i64 c2.rep.num),.v (.int .i64 c2.rep.code),.sl 1 (Strs c2.rep.vals)]:=rfl
       have hvl:=hok2.rep.vals
       rw [hrv] at m6
       refine Ja m6 ?_ ?_
       ·simp [cliM,cliV,cliT,hrv]
       simp [cliM,cliV,cliT,hrv]
       refine go_up right.length (fun q (_:Unit)=>∀ i (h:i < right.length),i < q → (told)[i]? = some true → c2.rep.same (rightA right[i]) = false) (fun q _ c=>⟨[(14,.row 14 1 c 0 right.length),(24,.ptr 24 c 0),(153,.sl 4 rs),(154,.v (.int .i64 (right.length:Nat))),(155,.v (.int .i64 (q:Nat)))],
        [(14,.rows c 1 (Bools (told))),(24,.var c (.node [.v (.int .i64 c2.rep.client),.v (.int .i64 c2.rep.num),.v (.int .i64 c2.rep.code),.sl 1 (Strs c2.rep.vals)]))],c + 1⟩) () _ (Weak.re (by simp [hrl2,hrn])) (fun i _ h=>by omega) ?_ ?_
       ·rintro q _ c hq hno
        have hwq2:IntKind.i64.wrap ((q:Int) + 1) = ((q + 1:Nat):Int):=Jf (by omega)
        have hqt:q < (told).length:=by rw [htl]; exact hq
        obtain ⟨b,hb⟩:∃ b,right[q] = b:=⟨_,rfl⟩
        have hbv:=hrg q b (by rw [List.getElem?_eq_getElem hq,hb])
        have mS:=JcU (G:=Gt) c2.rep (rightA b) (by omega)
        have hbr:(rightA b).avS = .node [.v (.int .i64 9),.v (.int .i64 1),.v (.int .i64 b.code),.sl 1 (Strs b.vals)]:=rfl
        rw [hrv,hbr] at mS
        obtain ⟨t,ht⟩:∃ t,(told)[q]? = some t:=⟨_,List.getElem?_eq_getElem hqt⟩
        have hbt:(Bools (told))[q]? = some (.v (.bool t)):=by rw [Jpm,ht]; rfl
        have hst:∀ i (h:i < right.length),i < q + 1 → (t = false ∨ c2.rep.same (rightA b) = false) → (told)[i]? = some true → c2.rep.same (rightA right[i]) = false:=fun i h hiq hor hh=>by
         rcases (show i < q ∨ i = q by omega) with hlt | rfl
         ·exact hno i h hlt hh
         ·rw [ht] at hh
          rw [hb]
          rcases hor with rfl | hor
          ·exact absurd hh (by simp)
          ·exact hor
        generalize Bools (told) = bt at *
        cases t
        ·simp [hq,hbv,hbt,hwq2]
         exact ⟨(),_,Weak.re (by simp [hrl2,hbc]),fun i h hiq=>hst i h hiq (.inl rfl)⟩
        ·simp [hq,hbv,hbt,hwq2]
         refine Ja mS ?_ ?_
         ·simp
         simp
         cases hs:c2.rep.same (rightA b)
         ·simp [hwq2]
          exact ⟨(),_,Weak.re (by simp [hrl2,hbc]),fun i h hiq=>hst i h hiq (.inr hs)⟩
         ·simp
          refine Jb (.inr rfl) ?_
          simp
       ·rintro _ c hno
        have hj:=(List.getElem?_eq_some_iff.1 k2)
        obtain ⟨hj1,hj2⟩:=hj
        have:=hno j0 hj1 hj1 k1
        rw [k3,hj2,JjR] at this
        cases this
     ·have he':=he
      refine Ja md ?_ ?_
      ·simp
      simp [he',Mail.av]
      refine Ja mh ?_ ?_
      ·simp [cliM,cliV,cliT]
      simp [cliM,cliV,cliT]
      rcases hcase with ⟨hop,hinv2⟩ | ⟨hop,j0,a0,k1,k2,k3⟩
      ·have m6:=JkO (G:=Gt) c2 (.inl hop)
       rw [hzr] at m6
       refine Ja m6 ?_ ?_
       ·simp [cliM,cliV,cliT]
       simp [cliM,cliV,cliT]
       exact ⟨(c2,told),_,Weak.re (by simp [cliV,cliT,hcl,hrl2,hwq]),hinv2⟩
      ·have m6:=JkH (G:=Gt) c2 hop (by rw [hnum2]; decide) hok2.rep.vals
       have hrv:c2.rep.avS = .node [.v (.int .i64 c2.rep.client),.v (.int .i64 c2.rep.num),.v (.int .i64 c2.rep.code),.sl 1 (Strs c2.rep.vals)]:=rfl
       have hvl:=hok2.rep.vals
       rw [hrv] at m6
       refine Ja m6 ?_ ?_
       ·simp [cliM,cliV,cliT,hrv]
       simp [cliM,cliV,cliT,hrv]
       refine go_up right.length (fun q (_:Unit)=>∀ i (h:i < right.length),i < q → (told)[i]? = some true → c2.rep.same (rightA right[i]) = false) (fun q _ c=>⟨[(14,.row 14 1 c 0 right.length),(24,.ptr 24 c 0),(153,.sl 4 rs),(154,.v (.int .i64 (right.length:Nat))),(155,.v (.int .i64 (q:Nat)))],
        [(14,.rows c 1 (Bools (told))),(24,.var c (.node [.v (.int .i64 c2.rep.client),.v (.int .i64 c2.rep.num),.v (.int .i64 c2.rep.code),.sl 1 (Strs c2.rep.vals)]))],c + 1⟩) () _ (Weak.re (by simp [hrl2,hrn])) (fun i _ h=>by omega) ?_ ?_
       ·rintro q _ c hq hno
        have hwq2:IntKind.i64.wrap ((q:Int) + 1) = ((q + 1:Nat):Int):=Jf (by omega)
        have hqt:q < (told).length:=by rw [htl]; exact hq
        obtain ⟨b,hb⟩:∃ b,right[q] = b:=⟨_,rfl⟩
        have hbv:=hrg q b (by rw [List.getElem?_eq_getElem hq,hb])
        have mS:=JcU (G:=Gt) c2.rep (rightA b) (by omega)
        have hbr:(rightA b).avS = .node [.v (.int .i64 9),.v (.int .i64 1),.v (.int .i64 b.code),.sl 1 (Strs b.vals)]:=rfl
        rw [hrv,hbr] at mS
        obtain ⟨t,ht⟩:∃ t,(told)[q]? = some t:=⟨_,List.getElem?_eq_getElem hqt⟩
        have hbt:(Bools (told))[q]? = some (.v (.bool t)):=by rw [Jpm,ht]; rfl
        have hst:∀ i (h:i < right.length),i < q + 1 → (t = false ∨ c2.rep.same (rightA b) = false) → (told)[i]? = some true → c2.rep.same (rightA right[i]) = false:=fun i h hiq hor hh=>by
         rcases (show i < q ∨ i = q by omega) with hlt | rfl
         ·exact hno i h hlt hh
         ·rw [ht] at hh
          rw [hb]
          rcases hor with rfl | hor
          ·exact absurd hh (by simp)
          ·exact hor
        generalize Bools (told) = bt at *
        cases t
        ·simp [hq,hbv,hbt,hwq2]
         exact ⟨(),_,Weak.re (by simp [hrl2,hbc]),fun i h hiq=>hst i h hiq (.inl rfl)⟩
        ·simp [hq,hbv,hbt,hwq2]
         refine Ja mS ?_ ?_
         ·simp
         simp
         cases hs:c2.rep.same (rightA b)
         ·simp [hwq2]
          exact ⟨(),_,Weak.re (by simp [hrl2,hbc]),fun i h hiq=>hst i h hiq (.inr hs)⟩
         ·simp
          refine Jb (.inr rfl) ?_
          simp
       ·rintro _ c hno
        have hj:=(List.getElem?_eq_some_iff.1 k2)
        obtain ⟨hj1,hj2⟩:=hj
        have:=hno j0 hj1 hj1 k1
        rw [k3,hj2,JjR] at this
        cases this
 ·rintro ⟨cl,told⟩ c _
  simp
  refine Jb (.inr rfl) ?_
  simp
end
section
open Go
theorem gTable : Tryz.prog.globalNamed "wapentake/sha.table" = some 0 := by kernel_rfl
def tableZ : List Int := table.map w32
theorem J5d {H:Type} : (Rows.laid_wapentake_sha_table:DataW H) = Lib.tabData .u32 tableZ := rfl
theorem J0m {C:Ctx} : ∀ ws : List UInt32,Es C 1 (U ws) (ws.map fun z=>Value.int .u32 (w32 z))
 | []=>rfl
 | w :: ws=>⟨[_],_,rfl,rfl,⟨rfl,rfl⟩,J0m ws⟩
theorem JXO {W:World} (h:laidMetH Tryz.prog [("wapentake/sha.table",Rows.laid_wapentake_sha_table)] W) : GR ⟨W,fun k=>k < W.heap.size,fun _=>none,fun _=>none,fun g=>g = 0⟩ Gt := by
 rw [MakeChecks.laidMetH_plain _ _ _ (by kernel_rfl),J5d] at h
 have hT:Lib.TabIs Tryz.prog W "wapentake/sha.table" .u32 tableZ:=by
  refine Lib.tabIs_of_head (t:=211) (e:=202) (n:=64) gTable ?_ ?_ ?_ ?_ ?_ h
  ·kernel_rfl
  ·kernel_rfl
  ·kernel_rfl
  ·kernel_rfl
  ·kernel_rfl
 intro n x hx
 unfold Gt at hx
 split at hx
 ·rename_i hn
  subst hn
  cases hx
  refine ⟨by simp [closed,closeds,U,closeds_all],0,0,_,rfl,?_,J0m table,?_⟩
  ·have h0:=hT.cell gTable 0 (by decide)
   show 0 < W.heap.size
   rcases Nat.eq_zero_or_pos W.heap.size with h1 | h1
   ·simp [World.cell?,Array.getElem?_eq_none (Nat.le_of_eq h1)] at h0
   ·exact h1
  ·intro j u hu
   have hj:j < table.length:=by
    rcases Nat.lt_or_ge j table.length with h1 | h1
    ·exact h1
    ·rw [List.getElem?_eq_none (by simpa using h1)] at hu
     cases hu
   have h1:=hT.cell gTable j (by simpa [tableZ] using hj)
   rw [Nat.zero_add,h1]
   simp [List.getElem?_eq_getElem hj] at hu
   rw [← hu]
   simp [tableZ,List.getD_eq_getElem?_getD,List.getElem?_eq_getElem hj]
 ·cases hx
end
end Go.Proofs.YtlajjoekbcjfnaaGreatDoor.WL
