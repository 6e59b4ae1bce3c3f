import Derived.Test.YtlajjoekbcjfnaaGreatDoorWm10
namespace Go.Proofs.YtlajjoekbcjfnaaGreatDoor.WL
set_option linter.all false
section
open Go
set_option maxHeartbeats 4000000
variable {G:Nat → Option AV}
attribute [local irreducible] sha
theorem JSa {ms:List Mem} {j:Nat} (hj:0 < j) (h:j < ms.length) : memOk ms j = ((ms[j]).good && decide ((ms[j-1]).id < (ms[j]).id)) := by
 have h1:j - 1 < ms.length:=by omega
 have h0:j ≠ 0:=by omega
 simp [memOk,h,h1,h0]
theorem Conf.good_no {c:Conf} {j:Nat} (h:j < c.ms.length) (hb:memOk c.ms j = false) : c.good = false := by
 have:(List.range c.ms.length).all (memOk c.ms) = false:=by
  rw [List.all_eq_false]
  exact ⟨j,List.mem_range.2 h,by simp [hb]⟩
 simp [Conf.good,this]
theorem JpS (c:Conf) : Meets Tryz.prog G Jbl [c.av] [] true (.v (.bool c.good)) [] := by
 refine Jc mix JQn ⟨by simp,by simp,by simp⟩ ?_
 by_cases c1:c.epoch < 0
 ·have d1:¬ 0 ≤ c.epoch:=by omega
  simp [Conf.av,c1]
  refine Jb (.inr rfl) ?_
  simp [Conf.good,d1]
 by_cases c2:1073741824 < c.epoch
 ·have d1:¬ c.epoch ≤ 1073741824:=by omega
  simp [Conf.av,c1,c2]
  refine Jb (.inr rfl) ?_
  simp [Conf.good,d1]
 by_cases c3:c.ms = []
 ·simp [Conf.av,c1,c2,c3]
  refine Jb (.inr rfl) ?_
  simp [Conf.good,c3]
 by_cases c4:(10:Int) < (c.ms.length:Nat)
 ·have d1:¬ c.ms.length ≤ 10:=by omega
  simp [Conf.av,c1,c2,c3,c4]
  refine Jb (.inr rfl) ?_
  simp [Conf.good,d1]
 have c3':0 < c.ms.length:=List.length_pos_iff.2 c3
 have hno:=@Conf.good_no c
 have hyes:(∀ j,j < c.ms.length → memOk c.ms j = true) → c.good = true:=by
  intro h
  have:(List.range c.ms.length).all (memOk c.ms) = true:=List.all_eq_true.2 fun j hj=>h j (List.mem_range.1 hj)
  simp only [Conf.good,this,Bool.and_true,Bool.and_eq_true,decide_eq_true_eq]
  omega
 generalize hr:c.good = res at *
 generalize hms:c.ms = ms at *
 generalize hep:c.epoch = ep at *
 simp [Conf.av,c1,c2,c3,c4,hms,hep]
 refine go_up ms.length (fun j (_:Unit)=>∀ i,i < j → memOk ms i = true) (fun j (_:Unit) q=>⟨[(1,.ptr 1 q 0),(26,.sl 34 (Mems ms)),(27,.v (.int .i64 (ms.length:Nat))),(28,.v (.int .i64 (j:Nat)))],[(1,.var q (.node [.v (.int .i64 ep),.sl 34 (Mems ms)]))],q + 1⟩) () _ (Weak.re (by simp)) (by intro i h; omega) ?_ ?_
 ·intro j _ q hj hx
  have hw:IntKind.i64.wrap ((j:Int) + 1) = ((j + 1:Nat):Int):=Jf (by omega)
  have hs:IntKind.i64.wrap ((j:Int) - 1) = (j:Int) - 1:=Jp (by omega)
  have m1:=JTk (G:=G) ms[j]
  have hnext:memOk ms j = true → ∀ i,i < j + 1 → memOk ms i = true:=by
   intro h i hi
   rcases (show i < j ∨ i = j by omega) with h1 | rfl
   ·exact hx i h1
   ·exact h
  simp [hj]
  refine Ja m1 ?_ ?_
  ·simp
  simp
  cases hg:ms[j].good
  ·have hb:memOk ms j = false:=by simp [memOk,hj,hg]
   simp [hg]
   refine Jb (.inr rfl) ?_
   simp [hno hj hb]
  by_cases hj0:j = 0
  ·subst hj0
   have hb:memOk ms 0 = true:=by simp [memOk,hj,hg]
   have hw1:IntKind.i64.wrap 1 = 1:=Jp (by omega)
   simp [hg,hw1]
   exact ⟨(),_,Weak.re (by simp),hnext hb⟩
  ·have hj1:0 < j:=by omega
   have hj2:(j:Int) - 1 < ms.length:=by omega
   have hj3:((j:Int) - 1).toNat = j - 1:=by omega
   have hj4:j - 1 < ms.length:=by omega
   have hj5:(1:Int) ≤ (j:Int):=by omega
   have e:=JSa (by omega) hj
   by_cases hl:ms[j-1].id < ms[j].id
   ·have hb:memOk ms j = true:=by rw [e,hg]; simp [hl]
    have hl':¬ ms[j].id ≤ ms[j-1].id:=by omega
    simp [hg,hw,hs,hj0,hj1,hj2,hj3,hj4,hj5,hl',Mem.av]
    exact ⟨(),_,Weak.re (by simp),hnext hb⟩
   ·have hb:memOk ms j = false:=by rw [e,hg]; simp [hl]
    have hl':ms[j].id ≤ ms[j-1].id:=by omega
    simp [hg,hs,hj0,hj1,hj2,hj3,hj4,hj5,hl',Mem.av]
    refine Jb (.inr rfl) ?_
    simp [hno hj hb]
 ·intro _ q hx
  have hb:=hyes hx
  subst hb
  simp
  refine Jb (.inr rfl) ?_
  simp
end
section
open Go
set_option maxHeartbeats 4000000
attribute [local irreducible] comp hb sha leafD pairD secD shutD bitD wholeD pubD ofD
@[simp] theorem J8q : 16 ≤ maxLen := by decide
theorem JSV (x:List Dg) (p q:Dg) : Dgs x ++ [AV.arr 1 (B p.bs),AV.arr 1 (B q.bs)] = Dgs (x ++ [p,q]) := by simp [Dgs]
theorem JQx (a:Bytes) : cat [a] = a := by simp [cat]
theorem JW6 (s:Dg) : Meets Tryz.prog Gt JwZ [dv s] [] true (dv (shutD s)) [] := by
 refine Jc mix JU6 ⟨by simp,by simp,by simp⟩ ?_
 have h1:=Jp3 [s.bs] (by simp) (by rw [JQx]; simp)
 rw [JQx] at h1
 have e2:sha s.bs = shutD s:=by unfold shutD; rfl
 rw [e2] at h1
 simp
 refine Ja h1 ?_ ?_
 ·simp [Bss]
 simp
 refine Jb (.inr rfl) ?_
 simp
theorem JUi (l:List Dg) (h:l.length ≤ 100000) : Meets Tryz.prog Gt JpP [.sl 32 (Dgs l)] [] true (dv (wholeD l)) [] := by
 refine Jc mix JTm ⟨by simp,by simp,by simp⟩ ?_
 have hfl:=Jbq l
 have h1:=Jp3 [flatD l] (by simp) (by rw [JQx]; omega)
 rw [JQx] at h1
 have e2:sha (flatD l) = wholeD l:=by unfold wholeD; rfl
 rw [e2] at h1
 have hw:=JT (G:=Gt) [] l (by simp; omega)
 have hb:=JbS (G:=Gt) (flatD l) (by omega)
 rw [List.nil_append] at hw
 generalize flatD l = x at *
 generalize wholeD l = y at *
 have htx:List.take x.length x = x:=List.take_of_length_le (by omega)
 simp
 refine Ja hw ?_ ?_
 ·simp [wrM]
 simp [wrM]
 refine Ja hb ?_ ?_
 ·simp [wrM]
 simp [wrM]
 refine Ja h1 ?_ ?_
 ·simp [Bss,htx]
 simp
 refine Jb (.inr rfl) ?_
 simp
end
section
open Go
set_option maxHeartbeats 4000000
attribute [local irreducible] comp hb sha leafD pairD secD shutD wholeD pubD ofD
theorem J3u (n:Nat) (h:n < 4294967296) : bitsOp .and .i64 (n:Int) 1 = ((n % 2:Nat):Int) := by
 simp only [bitsOp,BitVec.toNat_and,BitVec.toNat_ofInt]
 have e1:((n:Int) % ((2 ^ IntKind.i64.bits:Nat):Int)).toNat = n:=by
  rw [← Int.natCast_emod,Int.toNat_natCast,Nat.mod_eq_of_lt (by simp only [IntKind.bits]; omega)]
 have e2:((1:Int) % ((2 ^ IntKind.i64.bits:Nat):Int)).toNat = 1:=by decide
 rw [e1,e2,Nat.and_one_is_mod,IntKind.wrap_i64]
 omega
theorem tdivN (j k:Nat) : Int.tdiv (j:Int) (k:Int) = ((j / k:Nat):Int) := by
 rw [Int.tdiv_eq_ediv_of_nonneg (by omega)]
 exact (Int.natCast_ediv j k).symm
theorem tmodN (j k:Nat) : Int.tmod (j:Int) (k:Int) = ((j % k:Nat):Int) := by
 rw [Int.tmod_eq_emod_of_nonneg (by omega)]
 exact (Int.natCast_emod j k).symm
theorem JZq {G:Nat → Option AV} (d:Dg) (i:Nat) (hi:i < 256) : Meets Tryz.prog G JGq [dv d,.v (.int .i64 (i:Nat))] [] true (.v (.int .i64 (bitD d i:Nat))) [] := by
 refine Jc mix JXz ⟨by simp,by simp,by simp⟩ ?_
 obtain ⟨q,hq⟩:∃ q:Nat,i / 8 = q:=⟨_,rfl⟩
 obtain ⟨r,hr⟩:∃ r:Nat,i % 8 = r:=⟨_,rfl⟩
 have d1:Int.tdiv (i:Int) 8 = (q:Int):=by have:=tdivN i 8; rw [hq] at this; exact this
 have d2:Int.tmod (i:Int) 8 = (r:Int):=by have:=tmodN i 8; rw [hr] at this; exact this
 have w0:IntKind.i64.wrap (q:Int) = (q:Int):=Jp (by omega)
 have hq32:q < 32:=by omega
 have hq32i:(q:Int) < 32:=by omega
 have hql:q < d.bs.length:=by rw [Dg.length]; omega
 obtain ⟨s,hs⟩:∃ s:Nat,7 - r = s:=⟨_,rfl⟩
 have w1:IntKind.i64.wrap (7 - (r:Int)) = (s:Int):=by rw [Jp (by omega)]; omega
 obtain ⟨b,hb⟩:∃ b,d.bs[q] = b:=⟨_,rfl⟩
 have hbn:=b.toNat_lt
 have hmin:min s 8 = s:=by omega
 obtain ⟨v,hv⟩:∃ v:Nat,b.toNat / 2 ^ s = v:=⟨_,rfl⟩
 have hvl:v ≤ b.toNat:=by rw [← hv]; exact Nat.div_le_self _ _
 have hfd:Int.fdiv (b.toNat:Int) (2 ^ s) = (v:Int):=by
  rw [Int.fdiv_eq_ediv_of_nonneg _ (by exact Int.le_of_lt (Int.pow_pos (by decide))),← hv,Int.natCast_ediv]
  simp
 have hfd2:(b.toNat:Int) / (2 ^ s) = (v:Int):=by
  rw [← hv,Int.natCast_ediv]
  simp
 have w2:IntKind.i64.wrap (v:Int) = (v:Int):=Jp (by omega)
 have ha:=J3u v (by omega)
 have hbit:v % 2 = bitD d i:=by
  unfold bitD
  rw [hq,hr,hs,List.getD_eq_getElem?_getD,List.getElem?_eq_getElem hql,Option.getD_some,hb,hv]
 rw [hbit] at ha
 have hget:d.bs[q]? = some b:=by rw [List.getElem?_eq_getElem hql,hb]
 simp [d1,d2,w0,hq32,hq32i,w1,hget,hb,hmin,hfd,hfd2,w2,ha]
 refine Jb (.inr rfl) ?_
 simp
theorem J5b (d:Dg) (o s:List Dg) (h:¬ (o.length = 32 ∧ s.length = 32)) : Meets Tryz.prog Gt JAq [dv d,.node [.sl 32 (Dgs o),.sl 32 (Dgs s)]] [] true (.tup [dv Dg.zero,.v (.bool false)]) [] := by
 refine Jc mix JRx ⟨by simp,by simp,by simp⟩ ?_
 by_cases h1:o.length = 32
 ·have h2:¬ s.length = 32:=fun e=>h ⟨h1,e⟩
  have h3:¬ (s.length:Int) = 32:=by omega
  simp [h1,h2,h3]
  refine Jb (.inr rfl) ?_
  simp
 ·have h3:¬ (o.length:Int) = 32:=by omega
  simp [h1,h3]
  refine Jb (.inr rfl) ?_
  simp
theorem JZF (d:Dg) (o s:List Dg) (N:Nat) (hN:N = 32) (ho:o.length = N) (hs:s.length = N) : Meets Tryz.prog Gt JAq [dv d,.node [.sl 32 (Dgs o),.sl 32 (Dgs s)]] [] true (.tup [dv (ofD d o s N),.v (.bool true)]) [] := by
 refine Jc mix JRx ⟨by simp,by simp,by simp⟩ ?_
 have hoi:(o.length:Int) = 32:=by omega
 have hsi:(s.length:Int) = 32:=by omega
 have ho32:o.length = 32:=by omega
 have hs32:s.length = 32:=by omega
 simp [ho32,hs32]
 refine go_up N (fun j (x:List Dg)=>x = ofL d o s j) (fun j x c=>⟨[(2,.ptr 2 c 0),(3,.ptr 3 c 0),(4,.ptr 4 c 0),(6,.row 6 32 c 0 x.length),(21,.v (.int .i64 (j:Nat)))],
  [(2,.var c (dv d)),(3,.var c (.node [.sl 32 (Dgs o),.sl 32 (Dgs s)])),(4,.var c (dv Dg.zero)),(6,.rows c 32 (Dgs x))],c + 1⟩) [] _ (Weak.re (by simp)) rfl ?_ ?_
 ·intro j x c hj hx
  have hw:IntKind.i64.wrap ((j:Int) + 1) = ((j + 1:Nat):Int):=Jf (by omega)
  have hj8:(j:Int) < 32:=by omega
  have hxl:x.length = 2 * j:=by rw [hx,JPP]
  have f1:fitsB (x.length + 2) 32:=fits (by omega) (by omega)
  have hbt:=JZq (G:=Gt) d j (by omega)
  have hle:=J4P d j
  have hjo:j < o.length:=by omega
  have hjs:j < s.length:=by omega
  have hnx:x ++ two (bitD d j) (shutD o[j]) s[j] = ofL d o s (j + 1):=by
   have e1:o.getD j Dg.zero = o[j]:=by rw [List.getD_eq_getElem?_getD,List.getElem?_eq_getElem hjo]; rfl
   have e2:s.getD j Dg.zero = s[j]:=by rw [List.getD_eq_getElem?_getD,List.getElem?_eq_getElem hjs]; rfl
   rw [hx,← e1,← e2]
   rfl
  generalize bitD d j = b at *
  have t1:=JW6 o[j]
  generalize shutD o[j] = a at *
  obtain ⟨z,hz⟩:∃ z,s[j] = z:=⟨_,rfl⟩
  rw [hz] at hnx
  rcases hle with rfl | rfl
  ·rw [two,if_pos rfl] at hnx
   have w1:IntKind.i64.wrap (1 - 0) = 1:=by decide
   have w2:IntKind.i64.wrap 1 = 1:=by decide
   simp [hj8,hjo,hjs,hz]
   refine Ja t1 ?_ ?_
   ·simp
   simp [hjo,hjs,hz]
   refine Ja hbt ?_ ?_
   ·simp
   simp [f1,hw,w2,JSV]
   exact ⟨x ++ [a,z],_,Weak.re (by simp),hnx⟩
  ·rw [two,if_neg (by omega)] at hnx
   have w1:IntKind.i64.wrap 0 = 0:=by decide
   simp [hj8,hjo,hjs,hz]
   refine Ja t1 ?_ ?_
   ·simp
   simp [hjo,hjs,hz]
   refine Ja hbt ?_ ?_
   ·simp
   simp [f1,hw,w1,JSV]
   exact ⟨x ++ [z,a],_,Weak.re (by simp),hnx⟩
 ·intro x c hx
  have hxl:x.length = 2 * N:=by rw [hx,JPP]
  have hwh:=JUi x (by omega)
  have hp:wholeD x = ofD d o s N:=by rw [hx]; unfold ofD; rfl
  rw [hp] at hwh
  generalize ofD d o s N = y at *
  subst hN
  have htx:List.take x.length x = x:=List.take_of_length_le (by omega)
  simp
  refine Ja hwh ?_ ?_
  ·simp [htx]
  simp [htx]
  refine Jb (.inr rfl) ?_
  simp
end
section
open Go
set_option maxHeartbeats 4000000
attribute [local irreducible] comp hb sha leafD pairD
theorem JN2 (a b:Dg) : Meets Tryz.prog Gt Jj5 [.v (.int .u8 1),dv a,dv b] [] true (dv (pairD a b)) [] := by
 unfold pairD
 exact JW3 1 a b
theorem JXs (b:Bytes) (h:b.length ≤ 1000000) : Meets Tryz.prog Gt Jup [.sl 1 (B b)] [] true (dv (leafD b)) [] := by
 refine Jc mix JUn ⟨by simp,by simp,by simp⟩ ?_
 have e:cat [[0],b] = 0 :: b:=by simp [cat]
 have h1:=Jp3 [[0],b] (by simp) (by rw [e,List.length_cons]; omega)
 rw [e] at h1
 have e2:sha (0 :: b) = leafD b:=by unfold leafD; rfl
 rw [e2] at h1
 simp
 refine Ja h1 ?_ ?_
 ·simp [Bss,B_one]
 simp
 refine Jb (.inr rfl) ?_
 simp
end
section
open Go
set_option maxHeartbeats 4000000
attribute [local irreducible] comp hb sha leafD pairD
theorem JXr (root leaf:Dg) (at_ count:Int) (path:List Dg) (h:at_ < 0 ∨ count ≤ at_) : Meets Tryz.prog Gt JjL [dv root,dv leaf,.v (.int .i64 at_),.v (.int .i64 count),.sl 32 (Dgs path)] [] true (.v (.bool false)) [] := by
 refine Jc mix JMU ⟨by simp,by simp,by simp⟩ ?_
 by_cases c1:at_ < 0
 ·simp [c1]
  refine Jb (.inr rfl) ?_
  simp
 ·have c2:count ≤ at_:=by omega
  simp [c1,c2]
  refine Jb (.inr rfl) ?_
  simp
theorem JSA (root leaf:Dg) (at_ count:Nat) (path:List Dg) (h:at_ < count) (hc:count < 9223372036854775808) :
 Meets Tryz.prog Gt JjL [dv root,dv leaf,.v (.int .i64 (at_:Nat)),.v (.int .i64 (count:Nat)),.sl 32 (Dgs path)] [] true (.v (.bool (checkD root leaf at_ count path))) []:=by
 refine Jc mix JMU ⟨by simp,by simp,by simp⟩ ?_
 have c0:¬ (at_:Int) < 0:=by omega
 have c1:¬ (count:Int) ≤ (at_:Nat):=by omega
 have c2:¬ count ≤ at_:=by omega
 simp [c0,c1,c2]
 refine go_wh (fun a:Dg × Nat × Nat × List Dg=>a.2.2.1) (fun a=>a.2.1 < a.2.2.1 ∧ a.2.2.1 < 9223372036854775808 ∧ checkD root a.1 a.2.1 a.2.2.1 a.2.2.2 = checkD root leaf at_ count path)
  (fun a c=>⟨[(2,.v (.int .i64 (a.2.1:Nat))),(3,.v (.int .i64 (a.2.2.1:Nat))),(4,.sl 32 (Dgs a.2.2.2)),(5,.ptr 5 c 0),(6,.ptr 6 c 0)],[(5,.var c (dv root)),(6,.var c (dv a.1))],c + 1⟩) (leaf,at_,count,path) _ (Weak.re (by simp)) ⟨h,hc,rfl⟩ ?_
 rintro ⟨lf,i,n,p⟩ c ⟨hi,hn,hr⟩
 simp only at hi hn hr
 rw [← hr]
 by_cases h1:1 < n
 ·have c3:(1:Int) < (n:Nat):=by omega
  have hx:=J3b i (by omega)
  have hd:Int.tdiv (i:Int) 2 = ((i / 2:Nat):Int):=by rw [Int.tdiv_eq_ediv_of_nonneg (by omega)]; omega
  have hw:IntKind.i64.wrap ((i:Int) / 2) = (i:Int) / 2:=Jp (by omega)
  have hw1:IntKind.i64.wrap ((n:Int) - 1) = ((n - 1:Nat):Int):=by rw [Jp (by omega)]; omega
  have hd2:Int.tdiv ((n - 1:Nat):Int) 2 = (((n - 1) / 2:Nat):Int):=by rw [Int.tdiv_eq_ediv_of_nonneg (by omega)]; omega
  have hw2:IntKind.i64.wrap (((n - 1) / 2:Nat):Int) = (((n - 1) / 2:Nat):Int):=Jp (by omega)
  have hw3:IntKind.i64.wrap ((((n - 1) / 2:Nat):Int) + 1) = (((n + 1) / 2:Nat):Int):=by rw [Jp (by omega)]; omega
  obtain ⟨s,hs⟩:∃ s,sib i = s:=⟨_,rfl⟩
  rw [hs] at hx
  obtain ⟨n1,hn1⟩:∃ n1,n - 1 = n1:=⟨_,rfl⟩
  rw [hn1] at hw1 hd2 hw2 hw3
  obtain ⟨n2,hn2⟩:∃ n2,n1 / 2 = n2:=⟨_,rfl⟩
  rw [hn2] at hd2 hw2 hw3
  by_cases h2:n ≤ s
  ·have c4:(n:Int) ≤ (s:Nat):=by omega
   have hu:=JYk root lf i n p h1 (by omega)
   simp [c3,h1,hx,h2,c4,hd,hw,hw1,hd2,hw2,hw3]
   exact ⟨(lf,i / 2,(n + 1) / 2,p),_,Weak.re (by simp),⟨by show i / 2 < (n + 1) / 2; omega,by show (n + 1) / 2 < _; omega,by dsimp only; rw [← hu,hr]⟩,by show (n + 1) / 2 < n; omega⟩
  ·have c4:¬ (n:Int) ≤ (s:Nat):=by omega
   cases p with
   | nil =>
     have hu:=JVD root lf i n h1 (by omega)
     simp [c3,h1,hx,h2,c4]
     refine Jb (.inr rfl) ?_
     simp [hu]
   | cons q ps =>
     have hu:=JTW root lf i n q ps h1 (by omega)
     have hn0:¬ ((ps.length:Int) + 1 = 0):=by omega
     have hn3:(0:Int) < (ps.length:Int) + 1:=by omega
     have hn4:(1:Int) ≤ (ps.length:Int) + 1:=by omega
     have hDg:Dgs (q :: ps) = dv q :: Dgs ps:=rfl
     by_cases h3:i % 2 = 1
     ·have h4:s < i:=by rw [← hs]; unfold sib; rw [if_pos h3]; omega
      have c5:(s:Int) < (i:Nat):=by omega
      rw [if_pos h3] at hu
      simp [c3,h1,hx,h2,c4,hn0,hn3,c5,h4,hDg]
      refine Ja (JN2 q lf) ?_ ?_
      ·simp
      simp [hd,hw,hw1,hd2,hw2,hw3,hn4]
      exact ⟨(pairD q lf,i / 2,(n + 1) / 2,ps),_,Weak.re (by simp),⟨by show i / 2 < (n + 1) / 2; omega,by show (n + 1) / 2 < _; omega,by dsimp only; rw [← hu,hr]⟩,by show (n + 1) / 2 < n; omega⟩
     ·have h4:¬ s < i:=by rw [← hs]; unfold sib; rw [if_neg h3]; omega
      have c5:¬ (s:Int) < (i:Nat):=by omega
      rw [if_neg h3] at hu
      simp [c3,h1,hx,h2,c4,hn0,hn3,c5,h4,hDg]
      refine Ja (JN2 lf q) ?_ ?_
      ·simp
      simp [hd,hw,hw1,hd2,hw2,hw3,hn4]
      exact ⟨(pairD lf q,i / 2,(n + 1) / 2,ps),_,Weak.re (by simp),⟨by show i / 2 < (n + 1) / 2; omega,by show (n + 1) / 2 < _; omega,by dsimp only; rw [← hu,hr]⟩,by show (n + 1) / 2 < n; omega⟩
 ·have c3:¬ (1:Int) < (n:Nat):=by omega
  have hu:=JWJ root lf i n p (by omega)
  rw [hu]
  by_cases h5:p = []
  ·subst h5
   simp [c3,h1]
   refine Jb (.inr rfl) ?_
   simp
  ·have h6:¬ p.length = 0:=by intro e; exact h5 (List.eq_nil_of_length_eq_zero e)
   have h7:¬ ((p.length:Int) = 0):=by omega
   simp [c3,h1,h6,h7,h5]
   refine Jb (.inr rfl) ?_
   simp
end
section
open Go
set_option maxHeartbeats 4000000
attribute [local irreducible] comp hb sha leafD pairD secD shutD wholeD pubD ofD
theorem JVd (p:Dg) : Meets Tryz.prog Gt Jxz [dv p] [] true (dv (leafK p)) [] := by
 refine Jc mix JUH ⟨by simp,by simp,by simp⟩ ?_
 have h:=JXs p.bs (by simp)
 unfold leafK
 generalize leafD p.bs = y at *
 simp
 refine Ja h ?_ ?_
 ·simp
 simp
 refine Jb (.inr rfl) ?_
 simp
theorem JS9 (root:Dg) (h:Int) (d:Dg) (s:Sig) (hh:-9223372036854775808 ≤ h ∧ h < 9223372036854775808) (hl:-9223372036854775808 ≤ s.leaf ∧ s.leaf < 9223372036854775808) :
 Meets Tryz.prog Gt Jp7 [.node [dv root,.v (.int .i64 h)],dv d,s.avS] [] true (.v (.bool (checkK root h d s))) []:=by
 refine Jc mix JTb ⟨by simp,by simp,by simp⟩ ?_
 unfold checkK
 by_cases h1:s.op.length = 32 ∧ s.sh.length = 32
 ·have m1:=JZF d s.op s.sh 32 rfl h1.1 h1.2
  generalize ofD d s.op s.sh 32 = y at *
  have m2:=JVd y
  generalize leafK y = z at *
  by_cases h2:0 ≤ h
  ·by_cases h3:h ≤ 6
   ·obtain ⟨n,rfl⟩:∃ n:Nat,h = n:=⟨h.toNat,by omega⟩
    have hmin:min n 64 = n:=by omega
    obtain ⟨q,hq⟩:∃ q:Nat,q = 2 ^ n:=⟨_,rfl⟩
    have hq64:q ≤ 64:=by rw [hq]; exact Nat.le_trans (Nat.pow_le_pow_right (by omega) (show n ≤ 6 by omega)) (by decide)
    have hqi:((2:Int) ^ n) = (q:Int):=by rw [hq]; simp
    have w1:IntKind.i64.wrap (q:Int) = (q:Int):=Jp (by omega)
    have hn6:(n:Int) ≤ 6:=h3
    rw [Int.toNat_natCast,← hq]
    by_cases h4:0 ≤ s.leaf ∧ s.leaf < (q:Nat)
    ·obtain ⟨i,hi⟩:∃ i:Nat,s.leaf = i:=⟨s.leaf.toNat,by omega⟩
     rw [hi] at h4
     have m3:=JSA root z i q s.path (by omega) (by omega)
     rw [hi,Int.toNat_natCast]
     generalize checkD root z i q s.path = e at *
     simp [Sig.avS]
     refine Ja m1 ?_ ?_
     ·simp
     simp [h2,h3,hn6]
     refine Ja m2 ?_ ?_
     ·simp
     simp [hmin,hqi,w1,hi]
     refine Ja m3 ?_ ?_
     ·simp
     simp
     refine Jb (.inr rfl) ?_
     have h5:i < q:=by omega
     simp [h1,h5]
    ·have m3:=JXr root z s.leaf (q:Int) s.path (by omega)
     simp [Sig.avS]
     refine Ja m1 ?_ ?_
     ·simp
     simp [h2,h3,hn6]
     refine Ja m2 ?_ ?_
     ·simp
     simp [hmin,hqi,w1]
     refine Ja m3 ?_ ?_
     ·simp
     simp
     refine Jb (.inr rfl) ?_
     simp [h4]
   ·simp [Sig.avS]
    refine Ja m1 ?_ ?_
    ·simp
    simp [h2,h3]
    refine Jb (.inr rfl) ?_
    simp [h3]
  ·simp [Sig.avS]
   refine Ja m1 ?_ ?_
   ·simp
   simp [h2]
   refine Jb (.inr rfl) ?_
   simp [h2]
 ·have m1:=J5b d s.op s.sh h1
  simp [Sig.avS]
  refine Ja m1 ?_ ?_
  ·simp
  simp
  refine Jb (.inr rfl) ?_
  simp [h1]
end
section
open Go
set_option maxHeartbeats 4000000
variable {G:Nat → Option AV}
attribute [local irreducible] sha comp hb checkK
theorem JW9 {n:Nat} : (if (n:Int) - 1 < 0 then 0 else (n:Int) - 1).tdiv 3 = (faults n:Nat) := by
 unfold faults
 rcases Nat.eq_zero_or_pos n with h | h
 ·subst h; decide
 ·have:(if (n:Int) - 1 < 0 then 0 else (n:Int) - 1) = ((n - 1:Nat):Int):=by split <;> omega
  rw [this]
  rfl
theorem JJt (c:Conf) (h:c.ms.length ≤ 1000000) : Meets Tryz.prog G JbP [c.av] [] true (.v (.int .i64 (faults c.ms.length:Nat))) [] := by
 refine Jc mix JOD ⟨by simp,by simp,by simp⟩ ?_
 have e:=@JW9 c.ms.length
 have hs:IntKind.i64.wrap ((c.ms.length:Int) - 1) = (c.ms.length:Int) - 1:=Jp (by omega)
 have hf:IntKind.i64.wrap (faults c.ms.length:Nat) = (faults c.ms.length:Nat):=Jp (by unfold faults; omega)
 generalize faults c.ms.length = f at *
 simp [Conf.av,hs,e,hf]
 refine Jb (.inr rfl) ?_
 simp
theorem JQm (c:Conf) (h:c.ms.length ≤ 1000000) : Meets Tryz.prog G Jh5 [c.av] [] true (.v (.int .i64 (quorum c.ms.length:Nat))) [] := by
 refine Jc mix JN6 ⟨by simp,by simp,by simp⟩ ?_
 have m1:=JJt (G:=G) c h
 have hf:faults c.ms.length ≤ 1000000:=by unfold faults; omega
 have h1:IntKind.i64.wrap ((c.ms.length:Int) + (faults c.ms.length:Nat)) = (c.ms.length:Int) + (faults c.ms.length:Nat):=Jp (by omega)
 have h2:IntKind.i64.wrap (IntKind.i64.wrap (((c.ms.length:Int) + (faults c.ms.length:Nat)).tdiv 2) + 1) = (quorum c.ms.length:Nat):=by
  have h4:((c.ms.length:Int) + (faults c.ms.length:Nat)).tdiv 2 = ((c.ms.length + faults c.ms.length) / 2:Nat):=rfl
  have h5:IntKind.i64.wrap (((c.ms.length + faults c.ms.length) / 2:Nat):Int) = ((c.ms.length + faults c.ms.length) / 2:Nat):=Jp (by omega)
  rw [h4,h5]
  exact Jf (by omega)
 generalize quorum c.ms.length = q at *
 generalize faults c.ms.length = f at *
 simp [Conf.av]
 refine Ja m1 ?_ ?_
 ·simp [Conf.av]
 simp [h1,h2]
 refine Jb (.inr rfl) ?_
 simp
theorem JUu (c:Conf) (h:c.ms.length ≤ 1000000) : Meets Tryz.prog G Jm0 [c.av] [] true (.v (.int .i64 (faults c.ms.length + 1:Nat))) [] := by
 refine Jc mix JQ4 ⟨by simp,by simp,by simp⟩ ?_
 have m1:=JJt (G:=G) c h
 have hf:faults c.ms.length ≤ 1000000:=by unfold faults; omega
 generalize faults c.ms.length = f at *
 have h1:IntKind.i64.wrap ((f:Int) + 1) = ((f + 1:Nat):Int):=Jf (by omega)
 simp [Conf.av]
 refine Ja m1 ?_ ?_
 ·simp [Conf.av]
 simp [h1]
 refine Jb (.inr rfl) ?_
 simp
def bConfig : Bytes := [99,111,110,102,105,103]
def Conf.dg (c:Conf) : Dg := sha (bConfig ++ c.bytes)
theorem J1X : B bConfig = [AV.v (.int .u8 99),.v (.int .u8 111),.v (.int .u8 110),.v (.int .u8 102),.v (.int .u8 105),.v (.int .u8 103)] := (rfl)
def bVote : Bytes := [118,111,116,101]
def Vote.signs (v:Vote) : Dg := sha (bVote ++ v.head)
theorem J68 : B bVote = [AV.v (.int .u8 118),.v (.int .u8 111),.v (.int .u8 116),.v (.int .u8 101)] := (rfl)
theorem JSP (ms:List Mem) : (memsB ms).length = ms.length * 48 := by
 induction ms with
 | nil=>rfl
 | cons m ms ih =>
   show (memB m ++ memsB ms).length = _
   rw [List.length_append,ih]
   simp [memB,Jh]
   omega
theorem Conf.bytes_len (c:Conf) : c.bytes.length = 16 + c.ms.length * 48 := by simp [Conf.bytes,Jh,JSP]
theorem Vote.head_len (v:Vote) : v.head.length = 72 := by simp [Vote.head,Jh]
theorem JQZ (c:Conf) (h:c.ms.length ≤ 1000) : Meets Tryz.prog Gt Jh4 [c.av] [] true (dv c.dg) [] := by
 refine Jc mix JO6 ⟨by simp,by simp,by simp⟩ ?_
 have hrl:bConfig.length = 6:=rfl
 have hb:=c.bytes_len
 have e:cat [bConfig,c.bytes] = bConfig ++ c.bytes:=by simp [cat]
 have m1:=JLF (G:=Gt) [] c (by simp) h
 rw [List.nil_append] at m1
 have m2:=JbS (G:=Gt) c.bytes (by omega)
 have m3:=Jp3 [bConfig,c.bytes] (by simp) (by rw [e,List.length_append,hrl]; omega)
 rw [e] at m3
 unfold Conf.dg
 generalize sha (bConfig ++ c.bytes) = d at *
 generalize c.bytes = x at *
 have hx:List.take x.length x = x:=List.take_of_length_le (by omega)
 have hB:=J1X
 generalize bConfig = r at *
 have hr:List.take 6 r = r:=List.take_of_length_le (by omega)
 simp [Conf.av,dv]
 refine Ja m1 ?_ ?_
 ·simp [wrM,Conf.av,dv]
 simp [wrM,Conf.av,dv]
 refine Ja m2 ?_ ?_
 ·simp [wrM]
 simp [wrM]
 refine Ja m3 ?_ ?_
 ·simp [Bss,hB,hx,hr]
 simp
 refine Jb (.inr rfl) ?_
 simp
theorem JTC (v:Vote) : Meets Tryz.prog Gt Jp2 [v.av] [] true (dv v.signs) [] := by
 refine Jc mix JSD ⟨by simp,by simp,by simp⟩ ?_
 have hrl:bVote.length = 4:=rfl
 have hb:=v.head_len
 have e:cat [bVote,v.head] = bVote ++ v.head:=by simp [cat]
 have m1:=JOI (G:=Gt) [] v (by simp)
 rw [List.nil_append] at m1
 have m2:=JbS (G:=Gt) v.head (by omega)
 have m3:=Jp3 [bVote,v.head] (by simp) (by rw [e,List.length_append,hrl]; omega)
 rw [e] at m3
 unfold Vote.signs
 generalize sha (bVote ++ v.head) = d at *
 generalize v.head = x at *
 have hx:List.take x.length x = x:=List.take_of_length_le (by omega)
 have hB:=J68
 generalize bVote = r at *
 have hr:List.take 4 r = r:=List.take_of_length_le (by omega)
 simp [Vote.av,dv]
 refine Ja m1 ?_ ?_
 ·simp [wrM,Vote.av,dv]
 simp [wrM,Vote.av,dv]
 refine Ja m2 ?_ ?_
 ·simp [wrM]
 simp [wrM]
 refine Ja m3 ?_ ?_
 ·simp [Bss,hB,hx,hr]
 simp
 refine Jb (.inr rfl) ?_
 simp
end
section
open Go
set_option maxHeartbeats 8000000
variable {G:Nat → Option AV}
theorem JTw {ms:List Mem} {id:Int} {k:Nat} (hk:k < ms.length) (h:(ms[k]).id = id) (hm:∀ j (hj:j < ms.length),j < k → (ms[j]).id ≠ id) : idxOf ms id = (k:Int) := by
 have:=Lib.idxBy_hit (fun _ y:Mem=>decide (y.id = id)) ms ms.length k default hk (Nat.le_refl _) (decide_eq_true (by simp [hk,h])) (fun j hj=>decide_eq_false (by simpa [show j < ms.length by omega] using hm j (by omega) hj))
 rwa [List.take_length] at this
theorem JPF {ms:List Mem} {id:Int} (hm:∀ j (hj:j < ms.length),(ms[j]).id ≠ id) : idxOf ms id = -1 := by
 have:=Lib.idxBy_miss (fun _ y:Mem=>decide (y.id = id)) ms ms.length default (fun j hj=>decide_eq_false (by simpa [show j < ms.length by omega] using hm j (by omega)))
 rwa [List.take_length] at this
attribute [local irreducible] sha idxOf faults quorum
theorem JR0 (m:Mem) : Meets Tryz.prog G JvD [m.av] [] true (.v (.bool m.good)) [] := by
 refine Jc mix JVj ⟨by simp,by simp,by simp⟩ ?_
 have e:m.good = (decide (0 < m.id) && decide (m.id < 64) && decide (0 ≤ m.height) && decide (m.height < 7)):=by
  unfold Mem.good
  rw [Bool.eq_iff_iff]
  simp only [Bool.and_eq_true,decide_eq_true_eq]
  omega
 rw [e]
 by_cases c1:0 < m.id
 case neg =>
  simp [Mem.av,dv,c1]
  refine Jb (.inr rfl) ?_
  simp
 by_cases c2:m.id < 64
 case neg =>
  simp [Mem.av,dv,c1,c2]
  refine Jb (.inr rfl) ?_
  simp
 by_cases c3:0 ≤ m.height
 case neg =>
  simp [Mem.av,dv,c1,c2,c3]
  refine Jb (.inr rfl) ?_
  simp
 by_cases c4:m.height < 7
 case neg =>
  simp [Mem.av,dv,c1,c2,c3,c4]
  refine Jb (.inr rfl) ?_
  simp
 simp [Mem.av,dv,c1,c2,c3,c4]
 refine Jb (.inr rfl) ?_
 simp
theorem JRt (c:Conf) (id:Int) (hn:c.ms.length ≤ 1000000) : Meets Tryz.prog G JyP [c.av,.v (.int .i64 id)] [] true (.v (.int .i64 (idxOf c.ms id))) [] := by
 refine Jc mix JUj ⟨by simp,by simp,by simp⟩ ?_
 have hhit:=@JTw c.ms id
 have hmiss:=@JPF c.ms id
 generalize idxOf c.ms id = res at *
 generalize hms:c.ms = ms at *
 simp [Conf.av,hms]
 refine go_up ms.length (fun j (_:Unit)=>∀ i (h:i < ms.length),i < j → (ms[i]).id ≠ id) (fun j (_:Unit) q=>⟨[(1,.v (.int .i64 id)),(8,.sl 34 (Mems ms)),(9,.v (.int .i64 (ms.length:Nat))),(10,.v (.int .i64 (j:Nat)))],[],q + 1⟩) () _ (Weak.re (by simp)) (by intro i _ h; omega) ?_ ?_
 ·intro j _ q hj hx
  have hw:IntKind.i64.wrap ((j:Int) + 1) = ((j + 1:Nat):Int):=Jf (by omega)
  by_cases h:ms[j].id = id
  ·have hr:=hhit hj h (fun i hi hij=>hx i hi hij)
   simp [hj,Mem.av,eq_true h]
   refine Jb (.inr rfl) ?_
   simp [hr]
  ·simp [hj,Mem.av,h,hw]
   refine ⟨(),_,Weak.re (by simp),?_⟩
   intro i hi hij
   rcases (show i < j ∨ i = j by omega) with h1 | rfl
   ·exact hx i hi h1
   ·exact h
 ·intro _ q hx
  have hr:=hmiss (fun j hj=>hx j hj hj)
  simp
  refine Jb (.inr rfl) ?_
  simp [hr]
theorem JRl (c:Conf) : Meets Tryz.prog G JGj [c.av] [] true (.v (.bool c.good)) [] := by
 refine Jc mix JW1 ⟨by simp,by simp,by simp⟩ ?_
 by_cases c1:c.epoch < 0
 ·have d1:¬ 0 ≤ c.epoch:=by omega
  simp [Conf.av,c1]
  refine Jb (.inr rfl) ?_
  simp [Conf.good,d1]
 by_cases c2:1073741824 < c.epoch
 ·have d1:¬ c.epoch ≤ 1073741824:=by omega
  simp [Conf.av,c1,c2]
  refine Jb (.inr rfl) ?_
  simp [Conf.good,d1]
 by_cases c3:c.ms = []
 ·simp [Conf.av,c1,c2,c3]
  refine Jb (.inr rfl) ?_
  simp [Conf.good,c3]
 have c3':0 < c.ms.length:=List.length_pos_iff.2 c3
 have c5:¬ ((c.ms.length:Nat):Int) < 1:=by omega
 by_cases c4:(10:Int) < (c.ms.length:Nat)
 ·have d1:¬ c.ms.length ≤ 10:=by omega
  simp [Conf.av,c1,c2,c5,c4]
  refine Jb (.inr rfl) ?_
  simp [Conf.good,d1]
 have hno:=@Conf.good_no c
 have hyes:(∀ j,j < c.ms.length → memOk c.ms j = true) → c.good = true:=by
  intro h
  have:(List.range c.ms.length).all (memOk c.ms) = true:=List.all_eq_true.2 fun j hj=>h j (List.mem_range.1 hj)
  simp only [Conf.good,this,Bool.and_true,Bool.and_eq_true,decide_eq_true_eq]
  omega
 generalize hr:c.good = res at *
 generalize hms:c.ms = ms at *
 generalize hep:c.epoch = ep at *
 simp [Conf.av,c1,c2,c5,c4,hms,hep]
 refine go_up ms.length (fun j (_:Unit)=>∀ i,i < j → memOk ms i = true) (fun j (_:Unit) q=>⟨[(1,.ptr 1 q 0),(26,.sl 34 (Mems ms)),(27,.v (.int .i64 (ms.length:Nat))),(28,.v (.int .i64 (j:Nat)))],[(1,.var q (.node [.v (.int .i64 ep),.sl 34 (Mems ms)]))],q + 1⟩) () _ (Weak.re (by simp)) (by intro i h; omega) ?_ ?_
 ·intro j _ q hj hx
  have hw:IntKind.i64.wrap ((j:Int) + 1) = ((j + 1:Nat):Int):=Jf (by omega)
  have hs:IntKind.i64.wrap ((j:Int) - 1) = (j:Int) - 1:=Jp (by omega)
  have m1:=JR0 (G:=G) ms[j]
  have hnext:memOk ms j = true → ∀ i,i < j + 1 → memOk ms i = true:=by
   intro h i hi
   rcases (show i < j ∨ i = j by omega) with h1 | rfl
   ·exact hx i h1
   ·exact h
  simp [hj]
  refine Ja m1 ?_ ?_
  ·simp
  simp
  cases hg:ms[j].good
  ·have hb:memOk ms j = false:=by simp [memOk,hj,hg]
   simp [hg]
   refine Jb (.inr rfl) ?_
   simp [hno hj hb]
  by_cases hj0:j = 0
  ·subst hj0
   have hb:memOk ms 0 = true:=by simp [memOk,hj,hg]
   have hw1:IntKind.i64.wrap 1 = 1:=Jp (by omega)
   simp [hg,hw1]
   exact ⟨(),_,Weak.re (by simp),hnext hb⟩
  ·have hj1:0 < j:=by omega
   have hj2:(j:Int) - 1 < ms.length:=by omega
   have hj3:((j:Int) - 1).toNat = j - 1:=by omega
   have hj4:j - 1 < ms.length:=by omega
   have hj5:(1:Int) ≤ (j:Int):=by omega
   have e:=JSa (by omega) hj
   by_cases hl:ms[j-1].id < ms[j].id
   ·have hb:memOk ms j = true:=by rw [e,hg]; simp [hl]
    have hl':¬ ms[j].id ≤ ms[j-1].id:=by omega
    simp [hg,hw,hs,hj0,hj1,hj2,hj3,hj4,hj5,hl',Mem.av]
    exact ⟨(),_,Weak.re (by simp),hnext hb⟩
   ·have hb:memOk ms j = false:=by rw [e,hg]; simp [hl]
    have hl':ms[j].id ≤ ms[j-1].id:=by omega
    simp [hg,hs,hj0,hj1,hj2,hj3,hj4,hj5,hl',Mem.av]
    refine Jb (.inr rfl) ?_
    simp [hno hj hb]
 ·intro _ q hx
  have hb:=hyes hx
  subst hb
  simp
  refine Jb (.inr rfl) ?_
  simp
end
section
open Go
set_option maxHeartbeats 4000000
attribute [local irreducible] comp hb sha leafD pairD secD shutD wholeD pubD ofD
def Sig.same (a b:Sig) : Bool := decide (a.leaf = b.leaf) && (decide (a.op = b.op) && decide (a.sh = b.sh)) && decide (a.path = b.path)
end
section
open Go
set_option maxHeartbeats 4000000
variable {G:Nat → Option AV}
attribute [local irreducible] sha comp hb checkK idxOf Vote.signs Vote.good
def memAt (ms:List Mem) (id:Int) : Mem := ms[(idxOf ms id).toNat]!
def rightV (c:Conf) (v:Vote) : Bool := decide (0 ≤ idxOf c.ms v.src) && v.good && decide (v.epoch = c.epoch) && checkK (memAt c.ms v.src).root (memAt c.ms v.src).height v.signs v.sig
theorem JVx {c:Conf} {v:Vote} (h:idxOf c.ms v.src = -1) : rightV c v = false := by simp [rightV,h]
theorem JUq {c:Conf} {v:Vote} {k:Nat} (hk:k < c.ms.length) (h:idxOf c.ms v.src = (k:Int)) : rightV c v = (v.good && decide (v.epoch = c.epoch) && checkK c.ms[k].root c.ms[k].height v.signs v.sig) := by
 simp [rightV,memAt,h,hk]
theorem JRn (c:Conf) (v:Vote) (hms:c.ms ≠ []) (hm:∀ m ∈ c.ms,W64 m.height) (hv:W64 v.sig.leaf) : Meets Tryz.prog Gt JjJ [c.av,v.av] [] true (.v (.bool (rightV c v))) [] := by
 refine Jc mix JSG ⟨by simp,by simp,by simp⟩ ?_
 rcases JLh c.ms v.src with h | ⟨k,hk,h⟩
 ·rw [JVx h]
  have m1:=JRq (G:=Gt) hms h
  simp [Conf.av,Vote.av]
  refine Ja m1 ?_ ?_
  ·simp [Conf.av]
  simp [Mem.av]
  refine Jb (.inr rfl) ?_
  simp
 ·rw [JUq hk h]
  have m1:=JR9 (G:=Gt) hk h
  have m2:=JUs (G:=Gt) v
  have m3:=JTC v
  have hh:=hm _ (List.getElem_mem hk)
  have m4:=JS9 c.ms[k].root c.ms[k].height v.signs v.sig hh hv
  generalize checkK c.ms[k].root c.ms[k].height v.signs v.sig = b4 at *
  generalize v.signs = sg at *
  simp [Conf.av,Vote.av]
  refine Ja m1 ?_ ?_
  ·simp [Conf.av]
  simp [Mem.av]
  refine Ja m2 ?_ ?_
  ·simp [Vote.av]
  simp
  cases hg:v.good
  ·simp [hg]
   refine Jb (.inr rfl) ?_
   simp
  by_cases he:v.epoch = c.epoch
  ·simp [hg,he]
   refine Ja m3 ?_ ?_
   ·simp [Vote.av,hg,he]
   simp [dv]
   refine Ja m4 ?_ ?_
   ·simp [dv]
   simp
   refine Jb (.inr rfl) ?_
   simp
  ·simp [hg,he]
   refine Jb (.inr rfl) ?_
   simp
end
end Go.Proofs.YtlajjoekbcjfnaaGreatDoor.WL
