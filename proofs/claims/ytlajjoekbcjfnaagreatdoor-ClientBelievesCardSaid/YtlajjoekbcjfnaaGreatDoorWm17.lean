import Derived.Test.YtlajjoekbcjfnaaGreatDoorWm16
namespace Go.Proofs.YtlajjoekbcjfnaaGreatDoor.WL
set_option linter.all false
section
open Go
set_option maxHeartbeats 8000000
variable {G:Nat → Option AV}
@[simp] theorem Jbm (q:Req) : closed (opA q) = true := by simp [opA,Chg.av,dv]
@[simp] theorem J6O (q:Req) : (opA q).solid = true := by simp [opA,Chg.av,dv]
@[simp] theorem J82 (q:Req) : (opA q).isAgg = true := by simp [opA,Chg.av,dv]
@[simp] theorem J7Z (q:Req) : (opA q).size = 40 := by simp [opA,Chg.av,dv]
@[simp] theorem J9c (q:Req) : sub true 40 (opA q) 0 = some (opA q) := by simp [opA,Chg.av,dv]
@[simp] theorem J7S {M:List (Nat × Loc)} (q:Req) : goodA false M (opA q) = true := JG (Jbm q)
@[simp] theorem J6e (q:Req) : pairsA (opA q) (opA q) = [] := Jv (Jbm q)
@[simp] theorem J83 {L:Names} {nb gn:Nat} (q:Req) : renA L nb gn (opA q) = opA q := JN (Jbm q)
@[simp] theorem J9j {m:Nat → Option Loc} {L:Names} (q:Req) : Fit m L (opA q) (opA q) = True := JY (Jbm q)
@[simp] theorem J8R {m:Nat → Option Loc} {L:Names} (q:Req) : FitR m L (opA q) (opA q) = True := JM (Jbm q)
@[simp] theorem J7a {m:Nat → Option Loc} (q:Req) : touch m (opA q) (opA q) = [] := JE (Jbm q)
@[simp] theorem J5j {m:Nat → Option Loc} (q:Req) : touchR m (opA q) (opA q) = [] := Jy (Jbm q)
@[simp] theorem J4t {U:Nat → Prop} (q:Req) : Stamped U (opA q) = True := Jt (Jbm q)
@[simp] theorem J8Y (q:Req) : (opA q).isTup = false := JC (Jbm q)
@[simp] theorem J8Z (q:Req) : refOf (opA q) = none := JB (Jbm q)
@[simp] theorem J9q (q:Req) (x:AV) : putAt true 40 x (opA q) 0 = some x := by simp [opA,Chg.av,dv]
@[simp] theorem Cal.av_closed (q:Cal) : closed (Cal.av q) = true := by simp [Cal.av]
@[simp] theorem Cal.av_solid (q:Cal) : (Cal.av q).solid = true := by simp [Cal.av]
@[simp] theorem Cal.av_agg (q:Cal) : (Cal.av q).isAgg = true := by simp [Cal.av]
@[simp] theorem Cal.av_size (q:Cal) : (Cal.av q).size = 48 := by simp [Cal.av]
@[simp] theorem Cal.av_sub (q:Cal) : sub true 48 (Cal.av q) 0 = some (Cal.av q) := by simp [Cal.av]
@[simp] theorem Cal.av_good {M:List (Nat × Loc)} (q:Cal) : goodA false M (Cal.av q) = true := JG (Cal.av_closed q)
@[simp] theorem Cal.av_pairs (q:Cal) : pairsA (Cal.av q) (Cal.av q) = [] := Jv (Cal.av_closed q)
@[simp] theorem Cal.av_ren {L:Names} {nb gn:Nat} (q:Cal) : renA L nb gn (Cal.av q) = Cal.av q := JN (Cal.av_closed q)
@[simp] theorem Cal.av_fit {m:Nat → Option Loc} {L:Names} (q:Cal) : Fit m L (Cal.av q) (Cal.av q) = True := JY (Cal.av_closed q)
@[simp] theorem Cal.av_fitR {m:Nat → Option Loc} {L:Names} (q:Cal) : FitR m L (Cal.av q) (Cal.av q) = True := JM (Cal.av_closed q)
@[simp] theorem Cal.av_touch {m:Nat → Option Loc} (q:Cal) : touch m (Cal.av q) (Cal.av q) = [] := JE (Cal.av_closed q)
@[simp] theorem Cal.av_touchR {m:Nat → Option Loc} (q:Cal) : touchR m (Cal.av q) (Cal.av q) = [] := Jy (Cal.av_closed q)
@[simp] theorem Cal.av_stamped {U:Nat → Prop} (q:Cal) : Stamped U (Cal.av q) = True := Jt (Cal.av_closed q)
@[simp] theorem Cal.av_tup (q:Cal) : (Cal.av q).isTup = false := JC (Cal.av_closed q)
@[simp] theorem Cal.av_ref (q:Cal) : refOf (Cal.av q) = none := JB (Cal.av_closed q)
@[simp] theorem Cal.av_put (q:Cal) (x:AV) : putAt true 48 x (Cal.av q) 0 = some x := by simp [Cal.av]
def Cals (l:List Cal) : List AV := l.map Cal.av
@[simp] theorem J4g (l:List Cal) : (Cals l).length = l.length := by simp [Cals]
@[simp] theorem J4S (l:List Cal) : closeds (Cals l) = true := by simp [Cals,closeds_all]
@[simp] theorem J7P (n:Nat) (l:List Cal) : (Cals l)[n]? = (l[n]?).map Cal.av := by simp [Cals]
@[simp] theorem J2p (n:Nat) (l:List Cal) (h:n < (Cals l).length) : (Cals l)[n] = Cal.av (l[n]'(by simpa [Cals] using h)) := by simp [Cals]
@[simp] theorem J4X (a b:List Cal) : Cals a ++ Cals b = Cals (a ++ b) := by simp [Cals]
@[simp] theorem J6U (n:Nat) (a:List Cal) : (Cals a).drop n = Cals (a.drop n) := by simp [Cals]
@[simp] theorem J65 (n:Nat) (a:List Cal) : (Cals a).take n = Cals (a.take n) := by simp [Cals]
@[simp] theorem J8c : Cals [] = [] := (rfl)
theorem opA_V (q:Req) : opA q = opV q := rfl
def Cal.size (c:Cal) : Nat := c.frame.length + c.op.key.length + c.op.val.length + c.op.old.length
def sum22 (cs:List Cal) : Nat := (cs.map fun c=>c.size + tot c.a.vals).sum
theorem JPE (ps:List Cal) {j:Nat} (h:j < ps.length) : sum22 (ps.take (j + 1)) = sum22 (ps.take j) + (ps[j].size + tot ps[j].a.vals) := by
 unfold sum22
 rw [← List.take_append_getElem h,List.map_append,List.sum_append]
 simp
theorem JVM (ps:List Cal) (j:Nat) : sum22 (ps.take j) ≤ sum22 ps := by
 have h:sum22 (ps.take j ++ ps.drop j) = sum22 (ps.take j) + sum22 (ps.drop j):=by unfold sum22; rw [List.map_append,List.sum_append]
 rw [List.take_append_drop] at h
 omega
def great22 (c:Conf) (cs:List Cal) : Bool := decide (20 < c.ms.length) || decide (60 < cs.length) || (cs.any fun a=>decide (300 < a.a.vals.length)) || decide (131072 < sum22 cs)
theorem JpL (c:Conf) (cs:List Cal) (hf:∀ a ∈ cs,a.In) (hl:cs.length ≤ 1000000000000) : Meets Tryz.prog G JhO [c.av,.sl 48 (Cals cs)] [] true (.v (.bool (great22 c cs))) [] := by
 refine Jc mix JVq ⟨by simp,by simp,by simp⟩ ?_
 have hg:great22 c cs = (decide (20 < c.ms.length) || decide (60 < cs.length) || (cs.any fun a=>decide (300 < a.a.vals.length)) || decide (131072 < sum22 cs)):=rfl
 generalize great22 c cs = g at *
 have hav:c.av = .node [.v (.int .i64 c.epoch),.sl 34 (Mems c.ms)]:=rfl
 rw [hav]
 generalize c.ms = ms at *
 generalize c.epoch = ep at *
 clear hav
 by_cases c1:(20:Int) < (ms.length:Nat)
 ·have:g = true:=by rw [hg]; simp [show 20 < ms.length by omega]
  simp [c1]
  refine Jb (.inr rfl) ?_
  simp [this]
 by_cases c2:(60:Int) < (cs.length:Nat)
 ·have:g = true:=by rw [hg]; simp [show 60 < cs.length by omega]
  simp [c1,c2]
  refine Jb (.inr rfl) ?_
  simp [this]
 have hyes:131072 < sum22 cs → g = true:=fun h=>by rw [hg]; simp [h]
 have hyes2:(∃ a ∈ cs,300 < a.a.vals.length) → g = true:=fun ⟨a,ha,h⟩=>by
  have:(cs.any fun a=>decide (300 < a.a.vals.length)) = true:=List.any_eq_true.2 ⟨a,ha,by simpa using h⟩
  rw [hg,this]
  simp
 have hno:sum22 cs ≤ 131072 → (∀ a ∈ cs,¬ 300 < a.a.vals.length) → g = false:=fun h h2=>by
  have:(cs.any fun a=>decide (300 < a.a.vals.length)) = false:=List.any_eq_false.2 fun a ha=>by simpa using h2 a ha
  rw [hg,this]
  simp
  omega
 clear hg
 simp [c1,c2]
 refine go_up cs.length (fun j (n:Nat)=>n = sum22 (cs.take j) ∧ n ≤ 131072 ∧ ∀ i (h:i < cs.length),i < j → ¬ 300 < cs[i].a.vals.length) (fun j n q=>⟨[(5,.v (.int .i64 (n:Nat))),(19,.sl 48 (Cals cs)),(20,.v (.int .i64 (cs.length:Nat))),(21,.v (.int .i64 (j:Nat)))],
  [],q + 1⟩) 0 _ (Weak.re (by simp)) ⟨by simp [sum22],by omega,by intro i _ h; omega⟩ ?_ ?_
 ·rintro j n q hj ⟨hn,hn2,hn3⟩
  have hw:IntKind.i64.wrap ((j:Int) + 1) = ((j + 1:Nat):Int):=Jf (by omega)
  have hs:=JPE cs hj
  rw [← hn] at hs
  have hle:=JVM cs (j + 1)
  obtain ⟨_,⟨_,_,_,_,_,_,_,q1,q2,q3⟩,_,q4,_,⟨_,_,_,q5⟩⟩:=hf cs[j] (List.getElem_mem hj)
  have hav:(cs[j]).av = .node [.v (.int .i64 cs[j].kind),opA cs[j].op,.v (.int .i64 cs[j].src),.v (.string (mkS cs[j].frame)),.v (.int .i64 cs[j].n),.node [.v (.int .i64 cs[j].a.client),.v (.int .i64 cs[j].a.num),.v (.int .i64 cs[j].a.code),.sl 1 (Strs cs[j].a.vals)]]:=rfl
  have hop:opA cs[j].op = .node [.v (.int .i64 cs[j].op.kind),.v (.string (mkS cs[j].op.key)),.v (.string (mkS cs[j].op.val)),.v (.string (mkS cs[j].op.old)),cs[j].op.ch.av]:=rfl
  have hsz:cs[j].size = cs[j].frame.length + cs[j].op.key.length + cs[j].op.val.length + cs[j].op.old.length:=rfl
  rw [hsz] at hs
  unfold reachBytes at q1 q2 q3 q4
  have hy3:=hyes2
  obtain ⟨vs,hvs⟩:∃ vs,cs[j].a.vals = vs:=⟨_,rfl⟩
  obtain ⟨x,hx⟩:∃ x,cs[j].frame.length = x:=⟨_,rfl⟩
  obtain ⟨y,hy⟩:∃ y,cs[j].op.key.length = y:=⟨_,rfl⟩
  obtain ⟨z,hz⟩:∃ z,cs[j].op.val.length = z:=⟨_,rfl⟩
  obtain ⟨u,hu⟩:∃ u,cs[j].op.old.length = u:=⟨_,rfl⟩
  rw [hvs] at hs q5 hav
  rw [hx,hy,hz,hu] at hs
  rw [hx] at q4
  rw [hy] at q1
  rw [hz] at q2
  rw [hu] at q3
  obtain ⟨m,hm⟩:∃ m,m = n + (x + y + z + u):=⟨_,rfl⟩
  have w1:IntKind.i64.wrap ((x:Int) + (y:Int)) = (x:Int) + (y:Int):=Jp (by omega)
  have w2:IntKind.i64.wrap ((x:Int) + (y:Int) + (z:Int)) = (x:Int) + (y:Int) + (z:Int):=Jp (by omega)
  have w3:IntKind.i64.wrap ((x:Int) + (y:Int) + (z:Int) + (u:Int)) = (x:Int) + (y:Int) + (z:Int) + (u:Int):=Jp (by omega)
  have w4:IntKind.i64.wrap ((n:Int) + ((x:Int) + (y:Int) + (z:Int) + (u:Int))) = (m:Int):=by rw [Jp (by omega)]; omega
  by_cases d:(131072:Int) < (m:Int)
  ·have hgt:=hyes (by omega)
   simp [hj,hav,hop,Chg.av,dv,hx,hy,hz,hu,w1,w2,w3,w4,d]
   refine Jb (.inr rfl) ?_
   simp [hgt]
  by_cases c4:(300:Int) < (vs.length:Nat)
  ·have hgt:=hyes2 ⟨cs[j],List.getElem_mem hj,by rw [hvs]; omega⟩
   simp [hj,hav,hop,Chg.av,dv,hx,hy,hz,hu,w1,w2,w3,w4,d,c4]
   refine Jb (.inr rfl) ?_
   simp [hgt]
  simp [hj,hav,hop,Chg.av,dv,hx,hy,hz,hu,w1,w2,w3,w4,d,c4]
  refine go_up vs.length (fun i (k:Nat)=>k = m + tot (vs.take i) ∧ k ≤ 131072) (fun i k q=>⟨[(5,.v (.int .i64 (k:Nat))),(19,.sl 48 (Cals cs)),(20,.v (.int .i64 (cs.length:Nat))),(21,.v (.int .i64 (j:Nat))),(56,.sl 1 (Strs vs)),(57,.v (.int .i64 (vs.length:Nat))),(58,.v (.int .i64 (i:Nat)))],
   [],q + 1⟩) m _ (Weak.re (by simp)) ⟨by simp [tot],by omega⟩ ?_ ?_
  ·rintro i k q hi ⟨hk,hk2⟩
   have hwi:IntKind.i64.wrap ((i:Int) + 1) = ((i + 1:Nat):Int):=Jf (by omega)
   have hsi:=J06 vs i hi
   have hlei:=J7B vs (i + 1)
   have hri:=q5 vs[i] (List.getElem_mem hi)
   unfold reachBytes at hri
   obtain ⟨l,hl2⟩:∃ l,vs[i].length = l:=⟨_,rfl⟩
   rw [hl2] at hsi hri
   obtain ⟨k2,hk3⟩:∃ k2,k2 = k + l:=⟨_,rfl⟩
   have w5:IntKind.i64.wrap ((k:Int) + (l:Int)) = (k2:Int):=by rw [Jp (by omega)]; omega
   by_cases d2:(131072:Int) < (k2:Int)
   ·have hgt:=hyes (by omega)
    simp [hi,hl2,w5,d2]
    refine Jb (.inr rfl) ?_
    simp [hgt]
   ·simp [hi,hl2,w5,d2,hwi]
    exact ⟨k2,_,Weak.re (by simp),by omega,by omega⟩
  ·rintro k q ⟨hk,hk2⟩
   rw [List.take_length] at hk
   simp [hw]
   refine ⟨k,_,Weak.re (by simp),by omega,hk2,?_⟩
   intro i hi hij
   rcases (show i < j ∨ i = j by omega) with h | rfl
   ·have:=hn3 i hi h
    omega
   ·rw [hvs]; omega
 ·rintro n q ⟨hn,hn2,hn3⟩
  rw [List.take_length] at hn
  have hgf:=hno (by omega) (fun a ha=>by
   obtain ⟨i,hi,rfl⟩:=List.getElem_of_mem ha
   exact hn3 i hi hi)
  simp
  refine Jb (.inr rfl) ?_
  simp [hgf]
end
section
open Go
set_option maxHeartbeats 4000000
attribute [local irreducible] sha comp hb checkK
theorem J15 (a:Rep) (hg:replyF.good a) (hl:a.bytes.length ≤ 262000) : decE (ansM a).bytes = 0 ∧ decM (ansM a).bytes = ansM a ∧ encE (ansM a) = 0 ∧ encB (ansM a) = (ansM a).bytes := by
 obtain ⟨hb,hok⟩:=enc4 (m:=ansM a) rfl
 have hb':(ansM a).bytes = be8 4 ++ (be8 0 ++ a.bytes):=hb
 have b1:=(JA 1 9).back [] (be8 0 ++ a.bytes) 4 ⟨by unfold W64; omega,by omega,by omega⟩
 have b2:=(JA 0 1024).back ([] ++ be8 4) a.bytes 0 ⟨by unfold W64; omega,by omega,by omega⟩
 have b3:=JLk.back ([] ++ be8 4 ++ be8 0) [] a hg
 have hw:replyF.wr a = a.bytes:=rfl
 rw [hw,List.append_nil] at b3
 have e0:(Rd.of (ansM a).bytes).inn 1 9 = 4:=by rw [hb']; exact b1.1
 have e1:(Rd.of (ansM a).bytes).inn' 1 9 = ⟨[] ++ be8 4,be8 0 ++ a.bytes,false⟩:=by rw [hb']; exact b1.2
 have e2:(Rd.of (ansM a).bytes).mail = ansM a:=by
  show bodyRd ((Rd.of (ansM a).bytes).inn 1 9) ((Rd.of (ansM a).bytes).inn' 1 9) = _
  rw [e0,e1]
  have f1:(⟨[] ++ be8 4,be8 0 ++ a.bytes,false⟩:Rd).inn 0 1024 = 0:=b2.1
  have f2:(⟨[] ++ be8 4,be8 0 ++ a.bytes,false⟩:Rd).inn' 0 1024 = ⟨[] ++ be8 4 ++ be8 0,a.bytes,false⟩:=b2.2
  have f3:(⟨[] ++ be8 4 ++ be8 0,a.bytes,false⟩:Rd).rep = a:=b3.1
  unfold bodyRd
  simp only [show ¬ (4:Int) = 1 by omega,show ¬ (4:Int) = 2 by omega,show ¬ (4:Int) = 3 by omega,if_false,if_true,f1,f2,f3]
  rfl
 have e3:(Rd.of (ansM a).bytes).mail'.done = true:=by
  show (bodyRd' ((Rd.of (ansM a).bytes).inn 1 9) ((Rd.of (ansM a).bytes).inn' 1 9)).done = true
  rw [e0,e1]
  have f2:(⟨[] ++ be8 4,be8 0 ++ a.bytes,false⟩:Rd).inn' 0 1024 = ⟨[] ++ be8 4 ++ be8 0,a.bytes,false⟩:=b2.2
  have f3:(⟨[] ++ be8 4 ++ be8 0,a.bytes,false⟩:Rd).rep' = ⟨[] ++ be8 4 ++ be8 0 ++ a.bytes,[],false⟩:=b3.2
  unfold bodyRd'
  simp only [show ¬ (4:Int) = 1 by omega,show ¬ (4:Int) = 2 by omega,show ¬ (4:Int) = 3 by omega,if_false,if_true,f2,f3]
  simp [Rd.done]
 have hlen:¬ 262144 < (ansM a).bytes.length:=by rw [hb']; simp; omega
 have g1:decE (ansM a).bytes = 0:=by unfold decE; rw [if_neg hlen,if_pos e3]
 have g2:decM (ansM a).bytes = ansM a:=by unfold decM; rw [if_neg hlen,if_pos e3,e2]
 have g3:encE (ansM a) = 0:=JUP hok g1
 exact ⟨g1,g2,g3,by unfold encB; rw [if_pos g3]⟩
theorem JVN (c:Cli) (k:Int) (a:Rep) (h:encE (ansM a) = 0) : hearC c k (encB (ansM a)) = answerC c k (decM (encB (ansM a))).rep := by
 obtain ⟨h1,_,_,h4⟩:=JTS (ansM a) (by show W64 4; unfold W64; omega) h
 have h4':(decM (encB (ansM a))).kind = 4:=h4
 unfold hearC
 rw [if_neg (by simp [h1]),if_pos h4']
end
section
open Go
set_option maxHeartbeats 4000000
attribute [local irreducible] sha comp hb checkK
theorem J1z (q:Req) (hg:reqF.good q) (hl:q.bytes.length ≤ 262000) : encE (mailQ q) = 0 := by
 have hb:(mailQ q).bytes = be8 3 ++ q.bytes:=by unfold Mail.bytes Mail.body; simp [mailQ]
 have hok:(mailQ q).ok = true:=by unfold Mail.ok; simp [mailQ]
 have b1:=(JA 1 9).back [] q.bytes 3 ⟨by unfold W64; omega,by omega,by omega⟩
 have b3:=JQU.back ([] ++ be8 3) [] q hg
 have hw:reqF.wr q = q.bytes:=rfl
 rw [hw,List.append_nil] at b3
 have e0:(Rd.of (mailQ q).bytes).inn 1 9 = 3:=by rw [hb]; exact b1.1
 have e1:(Rd.of (mailQ q).bytes).inn' 1 9 = ⟨[] ++ be8 3,q.bytes,false⟩:=by rw [hb]; exact b1.2
 have e3:(Rd.of (mailQ q).bytes).mail'.done = true:=by
  show (bodyRd' ((Rd.of (mailQ q).bytes).inn 1 9) ((Rd.of (mailQ q).bytes).inn' 1 9)).done = true
  rw [e0,e1]
  have f3:(⟨[] ++ be8 3,q.bytes,false⟩:Rd).req' = ⟨[] ++ be8 3 ++ q.bytes,[],false⟩:=b3.2
  unfold bodyRd'
  simp only [show ¬ (3:Int) = 1 by omega,show ¬ (3:Int) = 2 by omega,if_false,if_true,f3]
  simp [Rd.done]
 have hlen:¬ 262144 < (mailQ q).bytes.length:=by rw [hb]; simp; omega
 have g1:decE (mailQ q).bytes = 0:=by unfold decE; rw [if_neg hlen,if_pos e3]
 exact JUP hok g1
theorem JZT {m:Mail} (h:encE m = 0) : postL m = [.node [.v (.int .i64 0),.v (.string (mkS (encB m)))]] := if_pos h
theorem JUM : four22.good = true := by
 simp [four22,Conf.good,memOk]
 intro x hx
 match x,hx with
 | 0,_=>simp [Mem.good]
 | 1,_=>simp [Mem.good]
 | 2,_=>simp [Mem.good]
 | 3,_=>simp [Mem.good]
theorem JOd : four22.calm := ⟨by simp [four22],fun m hm=>by
 simp [four22] at hm
 rcases hm with rfl | rfl | rfl | rfl <;> simp [W64]⟩
def q22 : Req := ⟨7,1,1,[],[],[],Chg.zero⟩
theorem JV1 : reqF.good q22 := by
 refine ⟨?_,by simp [q22,Req.good]⟩
 constructor <;> simp [q22,W64,Chg.zero]
def a22 : Rep := ⟨7,1,0,[]⟩
theorem J1h : replyF.good a22 := by
 refine ⟨?_,by simp [a22],by simp [a22],by simp [a22],by simp [a22],by simp [a22]⟩
 constructor <;> simp [a22,W64]
end
section
open Go
set_option maxHeartbeats 8000000
variable {G:Nat → Option AV}
attribute [local irreducible] sha comp hb checkK idxOf Conf.good decM decE encB encE Req.good
def askQ (c:Cli) (o:Req) : Req := { o with client:=c.id,num:=c.req.num + 1 }
def askC (c:Cli) (o:Req) : Cli := { c with req:=askQ c o,opn:=true,ticks:=0,told:=[],base:=c.base + c.told.length }
theorem J3l (c:Cli) (o:Req) (h:c.opn = false) (hn:0 ≤ c.req.num ∧ c.req.num ≤ 1000000) (hg:(askQ c o).good = false) : Meets Tryz.prog G JZ [.ptr 1000 0 0,opV o] (cliM c) false (.tup [.sl 2 [],.v (.int .i64 1)]) (cliM c) := by
 refine Jc mix JjY ⟨by simp [cliM,cliV,cliT],by simp,by simp [cliM]⟩ ?_
 have m1:=JF8 (G:=G) (askQ c o)
 rw [hg] at m1
 have hw:IntKind.i64.wrap (c.req.num + 1) = c.req.num + 1:=Jp (by omega)
 simp [cliM,cliV,cliT,opV,Chg.av,dv,Req.av,h,hw]
 refine Ja m1 ?_ ?_
 ·simp [Req.av,askQ,Chg.av,dv]
 simp
 refine Jb (.inr rfl) ?_
 simp [Req.av,Chg.av,dv]
theorem JSS (c:Cli) (o:Req) (h:c.opn = false) (hn:0 ≤ c.req.num ∧ c.req.num ≤ 1000000) (hg:(askQ c o).good = true) (hb:(askQ c o).bytes.length ≤ 3000000) :
 Meets Tryz.prog G JZ [.ptr 1000 0 0,opV o] (cliM c) false (.tup [.sl 2 (postL (mailQ (askQ c o))),.v (.int .i64 0)]) (cliM (askC c o)):=by
 refine Jc mix JjY ⟨by simp [cliM,cliV,cliT],by simp,by simp [cliM]⟩ ?_
 have m1:=JF8 (G:=G) (askQ c o)
 rw [hg] at m1
 have m2:=JXc (G:=G) (mailQ (askQ c o)) (JZt _ hb)
 have hw:IntKind.i64.wrap (c.req.num + 1) = c.req.num + 1:=Jp (by omega)
 obtain ⟨P,hP⟩:∃ P,postL (mailQ (askQ c o)) = P:=⟨_,rfl⟩
 have hPc:=JMg (mailQ (askQ c o))
 rw [hP] at m2 hPc ⊢
 simp [cliM,cliV,cliT,opV,Chg.av,dv,Req.av,h,hw]
 refine Ja m1 ?_ ?_
 ·simp [Req.av,askQ,Chg.av,dv]
 simp
 refine Ja m2 ?_ ?_
 ·simp [mailQ,askQ,Mail.av,Mail.zero,Plan.av,Plan.zero,Vote.av,Vote.zero,Req.av,Req.zero,Chg.av,Chg.zero,Rep.avS,Rep.zero,Blk.avS,Blk.zero,Cert.av,Cert.zero,Sig.avS,Sig.zero,dv]
 simp [mailQ,askQ,Mail.av,Mail.zero,Plan.av,Plan.zero,Vote.av,Vote.zero,Req.av,Req.zero,Chg.av,Chg.zero,Rep.avS,Rep.zero,Blk.avS,Blk.zero,Cert.av,Cert.zero,Sig.avS,Sig.zero,dv]
 refine Jb (.inr rfl) ?_
 simp [askC,askQ,Req.av,Chg.av,dv,hPc]
end
section
open Go
set_option maxHeartbeats 1000000
def al0 : Cli := cli0 7 four22
def o22 : Req := ⟨0,0,1,[],[],[],Chg.zero⟩
def al1 : Cli := askC al0 o22
def al2 : Cli := answerC al1 1 a22
def al3 : Cli := answerC al2 3 a22
theorem al1_q : askQ al0 o22 = q22 := rfl
theorem JTO : al2 = { al1 with told:=[(1,a22)] } := by
 unfold al2 answerC
 rw [if_neg (by simp [al1,askC,al0,cli0,a22,askQ,Req.zero])]
 unfold countC
 rw [if_neg]
 ·rfl
 ·have:(putT al1.told 1 a22).countP (okA al1.conf a22) ≤ 1:=by
   have h:=List.countP_le_length (p:=okA al1.conf a22) (l:=putT al1.told 1 a22)
   have h2:(putT al1.told 1 a22).length = 1:=rfl
   omega
  show ¬ (faults 4 + 1 ≤ _)
  have hf:faults 4 = 1:=rfl
  rw [hf]
  show ¬ (1 + 1 ≤ (putT al1.told 1 a22).countP (okA al1.conf a22))
  omega
theorem ok1 : okA four22 a22 (1,a22) = true := by decide +kernel
theorem ok3 : okA four22 a22 (3,a22) = true := by decide +kernel
theorem JWk : al3 = { al1 with told:=[(1,a22),(3,a22)],opn:=false,rep:=a22 } := by
 unfold al3
 rw [JTO]
 unfold answerC
 rw [if_neg (by simp [al1,askC,al0,cli0,a22,askQ,Req.zero])]
 unfold countC
 rw [if_pos]
 ·rfl
 ·show faults 4 + 1 ≤ List.countP (okA four22 a22) [(1,a22),(3,a22)]
  have hf:faults 4 = 1:=rfl
  rw [hf,List.countP_cons,List.countP_cons,ok1,ok3]
  simp
theorem J05 : a22.Tame := ⟨by simp [a22,Rep.bytes,Jh,txts],by simp [a22]⟩
theorem JTd : al1.Ok := ⟨by simp [al1,askC,al0,cli0,four22],by simp [al1,askC,al0,cli0,four22],by simp [al1,askC],by simp [al1,askC,al0,cli0],by simp [al1,askC],⟨by simp [al1,askC,al0,cli0,Rep.zero,Rep.bytes,Jh,txts],by simp [al1,askC,al0,cli0,Rep.zero]⟩⟩
theorem J6u : al2.Ok := by
 rw [JTO]
 refine ⟨JTd.ms,JTd.few,by simp,JTd.base,fun p hp=>?_,JTd.rep⟩
 simp only [List.mem_singleton] at hp
 subst hp
 exact J05
theorem JQ2 : Meets Tryz.prog Gt Jwm [] [] true (.v (.bool true)) [] := by
 refine Jc mix JVn ⟨by simp,by simp,by simp⟩ ?_
 have hal:a22.bytes.length ≤ 1000:=by simp [a22,Rep.bytes,Jh,txts]
 have hql:q22.bytes.length ≤ 1000:=by rw [Req.bytes_len]; simp [q22]
 obtain ⟨z1,z2,z3,z4⟩:=J15 a22 J1h (by omega)
 have hyl:(encB (ansM a22)).length ≤ 262144:=by
  rw [z4]
  exact (JOB z3).2.1
 have m1:=JTv (G:=Gt)
 have m2:=JPM (G:=Gt) 7 four22 (by omega) (by omega) JUM (by simp [four22])
 have m3:=JSS (G:=Gt) al0 o22 rfl ⟨by simp [al0,cli0,Req.zero],by simp [al0,cli0,Req.zero]⟩ JV1.2 (by rw [al1_q]; omega)
 rw [al1_q,JZT (J1z q22 JV1 (by omega))] at m3
 have m4:=JGC (G:=Gt) a22 (by omega) (by simp [a22])
 have h1:hearC al1 1 (encB (ansM a22)) = al2:=by rw [JVN _ _ _ z3,z4,z2]; rfl
 have h2:hearC al2 3 (encB (ansM a22)) = al3:=by rw [JVN _ _ _ z3,z4,z2]; rfl
 have m5:=Jkn al1 1 (encB (ansM a22)) JTd (by simp [al1,askC]) (by omega) JOd
 have m7:=Jkn al2 3 (encB (ansM a22)) J6u (by rw [JTO]; simp) (by omega) (by rw [JTO]; exact JOd)
 rw [h1] at m5
 rw [h2] at m7
 have m6:=JkO (G:=Gt) al2 (.inl (by rw [JTO]; rfl))
 have m8:=JkH (G:=Gt) al3 (by rw [JWk]) (by rw [JWk]; simp [al1,askC,askQ,al0,cli0,Req.zero]) (by rw [JWk]; simp [a22])
 have hr3:al3.rep = a22:=by rw [JWk]
 rw [hr3] at m8
 have e1:askC al0 o22 = al1:=rfl
 rw [e1] at m3
 have hav:a22.avS = .node [.v (.int .i64 7),.v (.int .i64 1),.v (.int .i64 0),.sl 1 []]:=rfl
 have hov:opV o22 = .node [.v (.int .i64 1),.v (.string (mkS [])),.v (.string (mkS [])),.v (.string (mkS [])),.node [.v (.int .i64 0),.v (.int .i64 0),.v (.int .i64 0),.node [.arr 1 (B (zeros 32)),.v (.int .i64 0)]]]:=rfl
 rw [hav] at m4 m8
 rw [hov] at m3
 have hzr:Rep.zero.avS = .node [.v (.int .i64 0),.v (.int .i64 0),.v (.int .i64 0),.sl 1 []]:=rfl
 rw [hzr] at m6
 have ht:(cli0 7 four22).told = []:=rfl
 have hb:(cli0 7 four22).base = 0:=rfl
 have hre:repE 0 [] = []:=rfl
 have e0:al0 = cli0 7 four22:=rfl
 rw [e0] at m3
 clear h1 h2 z1 z2 z3 z4 hyl e1 hr3 hql hal hav hov e0
 generalize encB (ansM a22) = y at *
 generalize encB (mailQ q22) = w at *
 generalize al1 = c1 at *
 generalize al2 = c2 at *
 generalize al3 = c3 at *
 generalize cli0 7 four22 = c0 at *
 simp
 refine Ja m1 ?_ ?_
 ·simp
 simp
 refine Ja m2 ?_ ?_
 ·simp
 simp
 refine Ja m3 ?_ ?_
 ·simp [cliM,cliV,cliT,ht,hb,hre]
 simp [cliM,cliV,cliT]
 refine Ja m4 ?_ ?_
 ·simp
 simp
 refine Ja m5 ?_ ?_
 ·simp [cliM,cliV,cliT]
 simp [cliM,cliV,cliT]
 refine Ja m6 ?_ ?_
 ·simp [cliM,cliV,cliT]
 simp [cliM,cliV,cliT]
 refine Ja m4 ?_ ?_
 ·simp
 simp
 refine Ja m7 ?_ ?_
 ·simp [cliM,cliV,cliT]
 simp [cliM,cliV,cliT]
 refine Ja m8 ?_ ?_
 ·simp [cliM,cliV,cliT]
 simp [cliM,cliV,cliT]
 refine Jb (.inr rfl) ?_
 simp
end
section
open Go
attribute [local irreducible] sha comp hb checkK decM decE
structure Once (c:Cli) : Prop where
 told:∀ p ∈ c.told,p.2.num = c.req.num
 rep:c.opn = false → c.req.num ≠ 0 → c.rep.num = c.req.num
structure SameC (c c':Cli) : Prop where
 id:c'.id = c.id
 first:c'.first = c.first
 req:c'.req = c.req
 base:c'.base = c.base
 shut:c.opn = false → c'.opn = false ∧ c'.rep = c.rep
theorem SameC.refl (c:Cli) : SameC c c := ⟨rfl,rfl,rfl,rfl,fun h=>⟨h,rfl⟩⟩
theorem SameC.trans {a b c:Cli} (h:SameC a b) (k:SameC b c) : SameC a c :=
 ⟨k.id.trans h.id,k.first.trans h.first,k.req.trans h.req,k.base.trans h.base,fun ho=>⟨(k.shut (h.shut ho).1).1,(k.shut (h.shut ho).1).2.trans (h.shut ho).2⟩⟩
theorem JN1 {c:Cli} {a:Rep} (h:Once c) (ha:a.num = c.req.num) : Once (countC c a) := by
 unfold countC
 split
 ·exact ⟨h.told,fun _ _=>ha⟩
 ·exact h
theorem JNJ {c:Cli} {a:Rep} (ho:c.opn = true) : SameC c (countC c a) := by
 unfold countC
 split
 ·exact ⟨rfl,rfl,rfl,rfl,fun h=>by rw [ho] at h; cases h⟩
 ·exact SameC.refl c
theorem JSH (c:Cli) (k:Int) (a:Rep) : SameC c (answerC c k a) := by
 unfold answerC
 split
 ·exact SameC.refl c
 ·rename_i h
  have ho:c.opn = true:=by
   cases hh:c.opn
   ·exact absurd (.inl hh) h
   ·rfl
  have:=JNJ (c:={ c with told:=putT c.told k a }) (a:=a) ho
  exact ⟨this.id,this.first,this.req,this.base,fun hf=>by rw [ho] at hf; cases hf⟩
theorem JTr {c:Cli} (k:Int) (a:Rep) (h:Once c) : Once (answerC c k a) := by
 unfold answerC
 split
 ·exact h
 ·rename_i hc
  have hn:a.num = c.req.num:=by
   apply Classical.byContradiction
   exact fun hne=>hc (.inr (.inr hne))
  refine JN1 (c:={ c with told:=putT c.told k a }) ⟨fun p hp=>?_,h.rep⟩ hn
  rcases JKz hp with hp | rfl
  ·exact h.told p hp
  ·exact hn
theorem JX9 {c:Cli} (k:Int) {a:Rep} (h:c.Ok) (ha:a.Tame) (hl:c.told.length + 1 ≤ 1000) : (answerC c k a).Ok := by
 unfold answerC
 split
 ·exact h
 ·refine JTf ⟨h.ms,h.few,?_,h.base,fun p hp=>?_,h.rep⟩ ha
  ·have:=JQL c.told k a
   show (putT c.told k a).length ≤ 1000
   omega
  ·rcases JKz hp with hp | rfl
   ·exact h.reps p hp
   ·exact ha
theorem JU3 (c:Cli) (k:Int) (a:Rep) : (answerC c k a).told.length ≤ c.told.length + 1 := by
 unfold answerC
 split
 ·exact Nat.le_succ _
 ·rw [(JpU _ _).1]
  exact JQL c.told k a
theorem J0Z (c:Cli) (m:Mem) : SameC c (reC c m) ∧ (reC c m).told = c.told ∧ (reC c m).conf = c.conf := by
 unfold reC
 cases lookT c.told m.id with
 | none=>exact ⟨SameC.refl c,rfl,rfl⟩
 | some a =>
   simp only
   split
   ·rename_i ho
    exact ⟨JNJ ho,(JpU c a).1,(JpU c a).2.1⟩
   ·exact ⟨SameC.refl c,rfl,rfl⟩
theorem J16 {c:Cli} {m:Mem} (h:Once c) : Once (reC c m) := by
 unfold reC
 cases hl:lookT c.told m.id with
 | none=>exact h
 | some a =>
   simp only
   split
   ·exact JN1 h (h.told _ (JSY hl))
   ·exact h
theorem JTa : ∀ (ms:List Mem) (c:Cli),SameC c (ms.foldl reC c) ∧ (ms.foldl reC c).told = c.told ∧ (ms.foldl reC c).conf = c.conf ∧ (Once c → Once (ms.foldl reC c)) ∧ (c.Ok → (ms.foldl reC c).Ok)
 | [],c=>⟨SameC.refl c,rfl,rfl,id,id⟩
 | m :: ms,c=>by
   obtain ⟨h1,h2,h3⟩:=J0Z c m
   obtain ⟨k1,k2,k3,k4,k5⟩:=JTa ms (reC c m)
   exact ⟨h1.trans k1,k2.trans h2,k3.trans h3,fun h=>k4 (J16 h),fun h=>k5 (J2v h)⟩
theorem JNR (c:Cli) (ls:List Lnk) : SameC c (linksC c ls) ∧ (linksC c ls).told = c.told ∧ (Once c → Once (linksC c ls)) ∧ (c.Ok → (linksC c ls).Ok) := by
 unfold linksC
 split
 ·rename_i h
  obtain ⟨k1,k2,k3,k4,k5⟩:=JTa (checkL c.first ls).1.ms { c with conf:=(checkL c.first ls).1 }
  obtain ⟨g1,g2⟩:=JSw h.1
  exact ⟨⟨k1.id,k1.first,k1.req,k1.base,k1.shut⟩,k2,fun ho=>k4 ⟨ho.told,ho.rep⟩,fun ho=>k5 ⟨g1,by show (checkL c.first ls).1.ms.length ≤ 1000; omega,ho.told,ho.base,ho.reps,ho.rep⟩⟩
 ·exact ⟨SameC.refl c,rfl,id,id⟩
theorem JP9 (c:Cli) (k:Int) (f:Bytes) : SameC c (hearC c k f) ∧ (hearC c k f).told.length ≤ c.told.length + 1 ∧ (Once c → Once (hearC c k f)) := by
 unfold hearC
 split
 ·exact ⟨SameC.refl c,Nat.le_succ _,id⟩
 ·split
  ·exact ⟨JSH c k _,JU3 c k _,JTr k _⟩
  ·split
   ·obtain ⟨h1,h2,h3,_⟩:=JNR c (decM f).links
    exact ⟨h1,by rw [h2]; exact Nat.le_succ _,h3⟩
   ·exact ⟨SameC.refl c,Nat.le_succ _,id⟩
theorem JVL {c:Cli} (k:Int) {f:Bytes} (h:c.Ok) (hl:c.told.length + 1 ≤ 1000) (hf:f.length ≤ 900000) : (hearC c k f).Ok := by
 unfold hearC
 split
 ·exact h
 ·rename_i hd
  have hd0:decE f = 0:=by
   apply Classical.byContradiction
   exact fun hne=>hd hne
  split
  ·exact JX9 k h (JYE hd0 hf) hl
  ·split
   ·exact (JNR c _).2.2.2 h
   ·exact h
end
section
open Go
attribute [local irreducible] sha comp hb checkK decM decE idxOf
theorem JWr {ms:List Mem} {id:Int} {k:Nat} (h:idxOf ms id = (k:Int)) : ∃ m,ms[k]? = some m ∧ m.id = id := by
 by_cases hx:∃ j,∃ hj:j < ms.length,(ms[j]).id = id
 ·obtain ⟨j,hj,hid,hm⟩:∃ j,∃ hj:j < ms.length,(ms[j]).id = id ∧ ∀ i (hi:i < ms.length),i < j → (ms[i]).id ≠ id:=by
   obtain ⟨j,hj,hid⟩:=hx
   induction j using Nat.strongRecOn with
   | _ j ih =>
     by_cases h2:∃ i,∃ hi:i < ms.length,i < j ∧ (ms[i]).id = id
     ·obtain ⟨i,hi,hlt,hid2⟩:=h2
      exact ih i hlt hi hid2
     ·exact ⟨j,hj,hid,fun i hi hlt e=>h2 ⟨i,hi,hlt,e⟩⟩
  rw [JTw hj hid hm] at h
  have:j = k:=by omega
  subst this
  exact ⟨ms[j],List.getElem?_eq_getElem hj,hid⟩
 ·rw [JPF fun j hj e=>hx ⟨j,hj,e⟩] at h
  omega
theorem JYR {ms:List Mem} {a b:Int} (h:idxOf ms a = idxOf ms b) (h0:0 ≤ idxOf ms a) : a = b := by
 obtain ⟨k,hk⟩:∃ k:Nat,idxOf ms a = k:=⟨(idxOf ms a).toNat,by omega⟩
 obtain ⟨m,h1,h2⟩:=JWr hk
 obtain ⟨m',h3,h4⟩:=JWr (h ▸ hk)
 rw [h1] at h3
 obtain rfl:=Option.some.inj h3
 exact h2.symm.trans h4
theorem JZE {T:List (Int × Rep)} (h:(T.map (·.1)).Nodup) (k:Int) (a:Rep) : ((putT T k a).map (·.1)).Nodup := by
 unfold putT
 cases hf:T.findIdx? (fun p=>decide (p.1 = k)) with
 | none =>
   simp only [List.map_append,List.map_cons,List.map_nil]
   rw [List.nodup_append]
   refine ⟨h,List.nodup_cons.2 ⟨by simp,List.nodup_nil⟩,fun x hx y hy=>?_⟩
   rw [List.findIdx?_eq_none_iff] at hf
   obtain ⟨p,hp,rfl⟩:=List.mem_map.1 hx
   obtain rfl:=List.mem_singleton.1 hy
   have:=hf p hp
   simpa using this
 | some i =>
   obtain ⟨hlt,hp,_⟩:=List.findIdx?_eq_some_iff_getElem.1 hf
   have hk:(T[i]).1 = k:=by simpa using hp
   have:(T.set i (k,a)).map (·.1) = T.map (·.1):=by
    rw [List.map_set]
    refine List.ext_getElem? fun j=>?_
    rw [List.getElem?_set]
    by_cases e:i = j
    ·subst e
     rw [if_pos rfl,if_pos (by simpa using hlt),List.getElem?_map,List.getElem?_eq_getElem hlt]
     simp [hk]
    ·rw [if_neg e]
   show ((T.set i (k,a)).map (·.1)).Nodup
   rw [this]
   exact h
theorem JZZ {ms:List Mem} {T:List (Int × Rep)} {f:Nat} {a:Rep} (hn:(T.map (·.1)).Nodup) (h:f + 1 ≤ T.countP fun p=>decide (0 ≤ idxOf ms p.1) && decide (a.bytes = p.2.bytes)) : ∃ p ∈ T,(f:Int) ≤ idxOf ms p.1 ∧ a.bytes = p.2.bytes := by
 apply Classical.byContradiction
 intro hno
 have hall:∀ p ∈ T.filter (fun p=>decide (0 ≤ idxOf ms p.1) && decide (a.bytes = p.2.bytes)),(idxOf ms p.1).toNat < f:=fun p hp=>by
  obtain ⟨h1,h2⟩:=List.mem_filter.1 hp
  simp only [Bool.and_eq_true,decide_eq_true_eq] at h2
  apply Classical.byContradiction
  intro hge
  exact hno ⟨p,h1,by omega,h2.2⟩
 have hnd:((T.filter (fun p=>decide (0 ≤ idxOf ms p.1) && decide (a.bytes = p.2.bytes))).map fun p=>(idxOf ms p.1).toNat).Nodup:=by
  have hn2:((T.filter (fun p=>decide (0 ≤ idxOf ms p.1) && decide (a.bytes = p.2.bytes))).map (·.1)).Nodup:=hn.sublist (List.filter_sublist.map _)
  unfold List.Nodup at hn2 ⊢
  rw [List.pairwise_map] at hn2 ⊢
  refine hn2.imp_of_mem fun {p q} hp hq hne e=>?_
  have h1:=(List.mem_filter.1 hp).2
  have h2:=(List.mem_filter.1 hq).2
  simp only [Bool.and_eq_true,decide_eq_true_eq] at h1 h2
  exact hne (JYR (ms:=ms) (by omega) h1.1)
 have hlen:=List.Nodup.length_le_of_subset hnd (l₂:=List.range f) (fun x hx=>by
  obtain ⟨p,hp,rfl⟩:=List.mem_map.1 hx
  exact List.mem_range.2 (hall p hp))
 rw [List.length_map,List.length_range,← List.countP_eq_length_filter] at hlen
 omega
end
section
open Go
attribute [local irreducible] sha comp hb checkK decM decE idxOf encE
theorem J3H {a:Rep} (h:encE (ansM a) = 0) : (decM (encB (ansM a))).rep.bytes = a.bytes := by
 obtain ⟨_,h2,h3,h4⟩:=JTS (ansM a) (by show W64 4; unfold W64; omega) h
 have h5:encB (ansM a) = be8 4 ++ (be8 0 ++ a.bytes):=by
  unfold encB
  rw [if_pos h]
  exact (enc4 (m:=ansM a) rfl).1
 have h4':(decM (encB (ansM a))).kind = 4:=h4
 obtain ⟨m,hm⟩:∃ m,decM (encB (ansM a)) = m:=⟨_,rfl⟩
 rw [hm] at h2 h3 h4' ⊢
 have h6:encB m = be8 4 ++ (be8 m.height ++ m.rep.bytes):=by
  unfold encB
  rw [if_pos h2]
  exact (enc4 h4').1
 rw [h5,h6] at h3
 have h7:=List.append_cancel_left h3
 exact (List.append_inj h7 (by simp)).2
theorem JSi {c:Cli} {k:Int} {f:Bytes} (h:¬ (decE f = 0 ∧ (decM f).kind = 8)) : hearC c k f = c ∨ (decE f = 0 ∧ (decM f).kind = 4 ∧ hearC c k f = answerC c k (decM f).rep) := by
 unfold hearC
 by_cases h0:decE f ≠ 0
 ·rw [if_pos h0]; exact .inl rfl
 ·rw [if_neg h0]
  have h1:decE f = 0:=Classical.byContradiction h0
  by_cases h4:(decM f).kind = 4
  ·rw [if_pos h4]; exact .inr ⟨h1,h4,rfl⟩
  ·rw [if_neg h4,if_neg (fun e=>h ⟨h1,e⟩)]; exact .inl rfl
def rightA (a:Rep) : Rep := { a with client:=9,num:=1 }
def Told (right:List Rep) (told:List Bool) (b:Rep) : Prop := ∃ (k:Nat) (a:Rep),told[k]? = some true ∧ right[k]? = some a ∧ b.bytes = (rightA a).bytes
structure Bel (right:List Rep) (told:List Bool) (c:Cli) : Prop where
 conf:c.conf = c.first
 keys:(c.told.map (·.1)).Nodup
 ent:∀ p ∈ c.told,((faults c.first.ms.length:Nat):Int) ≤ idxOf c.first.ms p.1 → Told right told p.2
 real:∀ k:Nat,told[k]? = some true → ∃ a,right[k]? = some a ∧ encE (ansM (rightA a)) = 0
theorem Bel.mono {right:List Rep} {told told':List Bool} {c:Cli} (h:Bel right told c) (hm:∀ k:Nat,told[k]? = some true → told'[k]? = some true) (hr:∀ k:Nat,told'[k]? = some true → ∃ a,right[k]? = some a ∧ encE (ansM (rightA a)) = 0) : Bel right told' c :=
 ⟨h.conf,h.keys,fun p hp hi=>by
  obtain ⟨k,a,h1,h2,h3⟩:=h.ent p hp hi
  exact ⟨k,a,hm k h1,h2,h3⟩,hr⟩
theorem JXJ {right:List Rep} {told:List Bool} {c:Cli} (h:Bel right told c) (ho:c.opn = true) (k:Int) (b:Rep) (hb:((faults c.first.ms.length:Nat):Int) ≤ idxOf c.first.ms k → Told right told b) :
 ((answerC c k b).opn = true ∧ Bel right told (answerC c k b)) ∨ ((answerC c k b).opn = false ∧ Told right told (answerC c k b).rep):=by
 unfold answerC
 split
 ·exact .inl ⟨ho,h⟩
 ·have hent:∀ p ∈ putT c.told k b,((faults c.first.ms.length:Nat):Int) ≤ idxOf c.first.ms p.1 → Told right told p.2:=fun p hp hi=>by
   rcases JKz hp with hp | rfl
   ·exact h.ent p hp hi
   ·exact hb hi
  have hk:=JZE h.keys k b
  unfold countC
  split
  ·rename_i hc
   right
   refine ⟨rfl,?_⟩
   have hc':faults c.first.ms.length + 1 ≤ (putT c.told k b).countP (okA c.first b):=by
    have:=hc
    simp only [h.conf] at this
    exact this
   obtain ⟨p,hp,hi,hbb⟩:=JZZ (ms:=c.first.ms) (a:=b) hk hc'
   obtain ⟨j,a,k1,k2,k3⟩:=hent p hp hi
   exact ⟨j,a,k1,k2,hbb.trans k3⟩
  ·exact .inl ⟨ho,h.conf,hk,hent,h.real⟩
theorem J1E {right:List Rep} {told:List Bool} {c:Cli} (h:Bel right told c) (ho:c.opn = true) (k:Int) (f:Bytes) (hf:¬ (decE f = 0 ∧ (decM f).kind = 8)) (hb:((faults c.first.ms.length:Nat):Int) ≤ idxOf c.first.ms k → decE f = 0 → (decM f).kind = 4 → Told right told (decM f).rep) :
 ((hearC c k f).opn = true ∧ Bel right told (hearC c k f)) ∨ ((hearC c k f).opn = false ∧ Told right told (hearC c k f).rep):=by
 rcases JSi (c:=c) (k:=k) hf with e | ⟨h1,h2,e⟩
 ·rw [e]; exact .inl ⟨ho,h⟩
 ·rw [e]
  exact JXJ h ho k _ fun hi=>hb hi h1 h2
end
end Go.Proofs.YtlajjoekbcjfnaaGreatDoor.WL
