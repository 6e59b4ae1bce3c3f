import Derived.Test.YtlajjoekbcjfnaaGreatDoorWm7
import Derived.Shelf.SlicesQ.IndexFunc
import Derived.Lib.SliceRun
namespace Go.Proofs.YtlajjoekbcjfnaaGreatDoor.WL
set_option linter.all false
section
open Go
set_option maxHeartbeats 4000000
variable {G:Nat → Option AV}
theorem JGi (bs:Bytes) (a:Rep) (h:bs.length + a.bytes.length ≤ 60000000) (hn:a.vals.length ≤ 1000000) : Meets Tryz.prog G JX [.ptr 1000 0 0,a.avS] (wrM 0 bs) true (.tup []) (wrM 1 (bs ++ a.bytes)) := by
 refine Jc mix JAz ⟨by simp [wrM],by simp,by simp [wrM]⟩ ?_
 have hb:a.bytes = nums [a.client,a.num,a.code,(a.vals.length:Int)] ++ txts a.vals:=rfl
 rw [hb] at h ⊢
 rw [List.length_append] at h
 have n1:=Jh [a.client,a.num,a.code,(a.vals.length:Int)]
 have m1:=Jz (G:=G) bs [a.client,a.num,a.code,(a.vals.length:Int)] (by simp; omega)
 generalize nums [a.client,a.num,a.code,(a.vals.length:Int)] = x1 at *
 have m2:=JGy (G:=G) (bs ++ x1) a.vals (by rw [List.length_append]; omega) (by omega)
 generalize txts a.vals = x2 at *
 rw [← List.append_assoc]
 generalize bs ++ x1 ++ x2 = y2 at *
 generalize bs ++ x1 = y1 at *
 simp [Rep.avS,wrM]
 refine Ja m1 ?_ ?_
 ·simp [wrM,I64_4]
 simp [wrM,I64_4]
 refine Ja m2 ?_ ?_
 ·simp [wrM]
 simp [wrM]
 refine Jb (.inl rfl) ?_
 simp
theorem JTX (a b:Rep) (ha:a.bytes.length ≤ 60000000) (hb:b.bytes.length ≤ 60000000) (hna:a.vals.length ≤ 1000000) (hnb:b.vals.length ≤ 1000000) :
 Meets Tryz.prog G Jkp [a.avS,b.avS] [] true (.v (.bool (decide (a.bytes = b.bytes)))) []:=by
 refine Jc mix JPy ⟨by simp,by simp,by simp⟩ ?_
 have m1:=JGi (G:=G) [] a (by simpa using ha) hna
 have m2:=JGi (G:=G) [] b (by simpa using hb) hnb
 rw [List.nil_append] at m1 m2
 have b1:=JbS (G:=G) a.bytes (by omega)
 have b2:=JbS (G:=G) b.bytes (by omega)
 generalize a.bytes = x at *
 generalize b.bytes = y at *
 have hx:List.take x.length x = x:=List.take_of_length_le (by omega)
 have hy:List.take y.length y = y:=List.take_of_length_le (by omega)
 simp [Rep.avS]
 refine Ja m1 ?_ ?_
 ·simp [wrM,Rep.avS]
 simp [wrM,Rep.avS]
 refine Ja m2 ?_ ?_
 ·simp [wrM,Rep.avS]
 simp [wrM,Rep.avS]
 refine Ja b1 ?_ ?_
 ·simp [wrM]
 simp [wrM,hx]
 refine Ja b2 ?_ ?_
 ·simp [wrM]
 simp [wrM,hy]
 refine Jb (.inr rfl) ?_
 have hbeq:(x == y) = decide (x = y):=by rw [Bool.eq_iff_iff]; simp
 simp [hbeq]
theorem JTV (r:Rd) : Meets Tryz.prog G J9 [.ptr 1000 0 0] (rdM 0 r) true (r.rep.avR 3000 1) (rdM 1 r.rep' ++ [(3000,.rows 1 1 (Strs r.rep.vals))]) := by
 refine Jc mix JGt ⟨by simp [rdM],by simp [rdM,Rep.avR],by simp [rdM]⟩ ?_
 obtain ⟨hN,hN2⟩:=r.repN_eq
 have hrep:r.rep = if (r.p4.tx' r.repN).bad = true then Rep.zero else ⟨r.inn 1 64,r.p1.inn 1 1099511627776,r.p2.inn 0 1024,r.p4.tx r.repN⟩:=rfl
 have hrep':r.rep' = r.p4.tx' r.repN:=rfl
 rw [hrep,hrep']
 generalize r.repN = N at *
 unfold Rd.p4 Rd.p3 Rd.p2 Rd.p1 at *
 have m1:=Js (G:=G) r 1 64
 generalize r.inn' 1 64 = r1 at *
 have m2:=Js (G:=G) r1 1 1099511627776
 generalize r1.inn' 1 1099511627776 = r2 at *
 have m3:=Js (G:=G) r2 0 1024
 generalize r2.inn' 0 1024 = r3 at *
 have m4:=Js (G:=G) r3 0 256
 rw [← hN] at m4
 generalize r3.inn' 0 256 = r4 at *
 generalize r.inn 1 64 = a1 at *
 generalize r1.inn 1 1099511627776 = a2 at *
 generalize r2.inn 0 1024 = a3 at *
 simp [rdM]
 refine Ja m1 ?_ ?_
 ·simp [rdM]
 simp [rdM]
 refine Ja m2 ?_ ?_
 ·simp [rdM]
 simp [rdM]
 refine Ja m3 ?_ ?_
 ·simp [rdM]
 simp [rdM]
 refine Ja m4 ?_ ?_
 ·simp [rdM]
 simp [rdM]
 refine go_up N (fun j (_:Unit)=>True) (fun j _ c=>⟨[(0,.ptr 1000 0 0),(2,.ptr 2 c 0),(3,.ptr 3 c 0),(12,.v (.int .i64 (N:Nat))),(13,.v (.int .i64 (j:Nat)))],
  [(2,.var c (.node [.v (.int .i64 0),.v (.int .i64 0),.v (.int .i64 0),.v (.slice none 0 0)])),(3,.var c (.node [.v (.int .i64 a1),.v (.int .i64 a2),.v (.int .i64 a3),.row 20 1 c 0 j])),(20,.rows c 1 (Strs (r4.tx j))),
   (1000,.var 0 (.node [.row 2000 1 c (r4.tx' j).pre.length (r4.tx' j).s.length,.v (.bool (r4.tx' j).bad)])),(2000,.rows c 1 (B ((r4.tx' j).pre ++ (r4.tx' j).s)))],c + 1⟩) () _ (Weak.re0 1000 (by simp [Rd.tx,Rd.tx'])) trivial ?_ ?_
 ·intro j _ c hj _
  have hw:IntKind.i64.wrap ((j:Int) + 1) = ((j + 1:Nat):Int):=Jf (by omega)
  have f1:fitsB (j + 1) 16:=fits (by omega) (by omega)
  have e1:r4.tx (j + 1) = r4.tx j ++ [(r4.tx' j).text 1024]:=rfl
  have e2:r4.tx' (j + 1) = (r4.tx' j).text' 1024:=rfl
  have hl:=r4.tx_length j
  generalize r4.tx j = x at *
  generalize r4.tx' j = q at *
  have m5:=JoL (G:=G) q 1024
  generalize q.text' 1024 = q' at *
  generalize q.text 1024 = t at *
  have hS:Strs x ++ [AV.v (.string (mkS t))] = Strs (x ++ [t]):=by simp [Strs]
  simp [hj,rdM]
  refine Ja m5 ?_ ?_
  ·simp [rdM]
  simp [rdM,f1,hl,hw,hS]
  exact ⟨(),_,Weak.re0 1000 (by simp [e1,e2]),trivial⟩
 ·intro _ c _
  have hl:=r4.tx_length N
  generalize r4.tx N = x at *
  generalize r4.tx' N = q at *
  have m6:=J2 (G:=G) q
  simp [rdM]
  refine Ja m6 ?_ ?_
  ·simp [rdM]
  cases hb:q.bad
  ·simp [rdM,hb]
   refine Jb (.inr rfl) ?_
   simp [Rep.avR,hl,hb]
  ·simp [rdM,hb]
   refine Jb (.inr rfl) ?_
   simp [Rep.avR,Rep.zero,hb]
theorem JRD (ns:List Int) (hn:ns.length ≤ 1000000) : Meets Tryz.prog G JGe [.sl 1 (I64 ns)] [] true (.v (.string (mkS (nums ns)))) [] := by
 refine Jc mix JXR ⟨by simp,by simp,by simp⟩ ?_
 simp
 refine go_up ns.length (fun j (x:Bytes)=>x = nums (ns.take j)) (fun j x c=>⟨[(3,.v (.string (mkS x))),(6,.sl 1 (I64 ns)),(7,.v (.int .i64 (ns.length:Nat))),(8,.v (.int .i64 (j:Nat)))],[],c⟩) [] _ (Weak.refl _) (by simp [nums]) ?_ ?_
 ·intro j x c hj hx
  have hw:IntKind.i64.wrap ((j:Int) + 1) = ((j + 1:Nat):Int):=Jf (by omega)
  have hs:=JTF ns j hj
  rw [← hx] at hs
  have hxl:x.length ≤ 8000000:=by rw [hx,Jh,List.length_take]; omega
  have f1:fitsS (x.length + 8):=fitS (by omega)
  have m1:=Jp0 (G:=G) ns[j]
  have l1:=J3 ns[j]
  generalize be8 ns[j] = y at *
  simp [hj]
  refine Ja m1 ?_ ?_
  ·simp
  simp [f1,l1,hw]
  exact ⟨x ++ y,_,Weak.refl _,hs.symm⟩
 ·intro x c hx
  rw [List.take_length] at hx
  subst hx
  simp
  refine Jb (.inr rfl) ?_
  simp
theorem JLx (r:Rd) : Meets Tryz.prog G JpK [.ptr 1000 0 0] (rfM r) true r.req.av (rfM r.req') := by
 refine Jc mix JXd ⟨by simp [rfM],by simp [Req.av,Chg.av],by simp [rfM]⟩ ?_
 unfold Rd.req Rd.req0 Rd.req' Rd.q10 Rd.q9 Rd.q8 Rd.q7 Rd.q6 Rd.q5 Rd.q4 Rd.q3 Rd.q2 Rd.q1
 have m1:=Jo (G:=G) r 1 64
 generalize r.inn' 1 64 = r1 at *
 have m2:=Jo (G:=G) r1 1 1099511627776
 generalize r1.inn' 1 1099511627776 = r2 at *
 have m3:=Jo (G:=G) r2 1 7
 generalize r2.inn' 1 7 = r3 at *
 have m4:=JjU (G:=G) r3 1024
 generalize r3.text' 1024 = r4 at *
 have m5:=JjU (G:=G) r4 1024
 generalize r4.text' 1024 = r5 at *
 have m6:=JjU (G:=G) r5 1024
 generalize r5.text' 1024 = r6 at *
 have m7:=JjT (G:=G) r6
 generalize r6.num' = r7 at *
 have m8:=JjT (G:=G) r7
 generalize r7.num' = r8 at *
 have m9:=JjT (G:=G) r8
 generalize r8.num' = r9 at *
 have m10:=JjT (G:=G) r9
 generalize r9.num' = r10 at *
 have m11:=J0 (G:=G) r10
 generalize r10.dg' = r11 at *
 have m12:=JJ (G:=G) r11
 simp [rfM]
 refine Ja m1 ?_ ?_
 ·simp [rfM]
 simp [rfM]
 refine Ja m2 ?_ ?_
 ·simp [rfM]
 simp [rfM]
 refine Ja m3 ?_ ?_
 ·simp [rfM]
 simp [rfM]
 refine Ja m4 ?_ ?_
 ·simp [rfM]
 simp [rfM]
 refine Ja m5 ?_ ?_
 ·simp [rfM]
 simp [rfM]
 refine Ja m6 ?_ ?_
 ·simp [rfM]
 simp [rfM]
 refine Ja m7 ?_ ?_
 ·simp [rfM]
 simp [rfM]
 refine Ja m8 ?_ ?_
 ·simp [rfM]
 simp [rfM]
 refine Ja m9 ?_ ?_
 ·simp [rfM]
 simp [rfM]
 refine Ja m10 ?_ ?_
 ·simp [rfM]
 simp [rfM]
 refine Ja m11 ?_ ?_
 ·simp [rfM]
 simp [rfM]
 refine Ja m12 ?_ ?_
 ·simp [rfM]
 cases hb:r11.bad
 ·simp [rfM,hb]
  refine Jb (.inr rfl) ?_
  simp [Req.av,Chg.av]
 ·simp [rfM,hb]
  refine Jb (.inr rfl) ?_
  simp [Req.av,Chg.av,Req.zero,Chg.zero]
theorem JQM (a:Rep) (h:a.bytes.length ≤ 60000000) (hn:a.vals.length ≤ 1000000) : Meets Tryz.prog G Jgn [a.avS] [] true (.v (.string (mkS a.bytes))) [] := by
 refine Jc mix JNj ⟨by simp,by simp,by simp⟩ ?_
 have hb:a.bytes = nums [a.client,a.num,a.code,(a.vals.length:Int)] ++ txts a.vals:=rfl
 rw [hb] at h ⊢
 rw [List.length_append] at h
 have m1:=JRD (G:=G) [a.client,a.num,a.code,(a.vals.length:Int)] (by simp)
 generalize nums [a.client,a.num,a.code,(a.vals.length:Int)] = x1 at *
 simp [Rep.avS]
 refine Ja m1 ?_ ?_
 ·simp [I64_4]
 simp [I64_4]
 refine go_up a.vals.length (fun j (x:Bytes)=>x = x1 ++ txts (a.vals.take j)) (fun j x c=>⟨[(3,.v (.string (mkS x))),(18,.sl 1 (Strs a.vals)),(19,.v (.int .i64 (a.vals.length:Nat))),(20,.v (.int .i64 (j:Nat)))],[],c + 1⟩) x1 _ (Weak.re (by simp)) (by simp [txts]) ?_ ?_
 ·intro j x c hj hx
  have hw:IntKind.i64.wrap ((j:Int) + 1) = ((j + 1:Nat):Int):=Jf (by omega)
  have hs:=JNS a.vals j hj
  have hle:=JMX a.vals (j + 1)
  rw [hs,List.length_append,Jo3] at hle
  have hxl:x.length + (4 + a.vals[j].length) ≤ 60000000:=by rw [hx,List.length_append]; omega
  have hx2:x ++ txt a.vals[j] = x1 ++ txts (a.vals.take (j + 1)):=by rw [hx,hs,List.append_assoc]
  have m2:=JRE (G:=G) a.vals[j] (by omega)
  have l1:=Jo3 a.vals[j]
  have f1:fitsS (x.length + (4 + a.vals[j].length)):=fitS (by omega)
  generalize txt a.vals[j] = y at *
  simp [hj]
  refine Ja m2 ?_ ?_
  ·simp
  simp [f1,l1,hw]
  exact ⟨x ++ y,_,Weak.re (by simp),hx2⟩
 ·intro x c hx
  rw [List.take_length] at hx
  subst hx
  simp
  refine Jb (.inr rfl) ?_
  simp
theorem JQ8 (a b:List Bytes) (ha:a.length ≤ 1000000000) : Meets Tryz.prog G JxS [.sl 1 (Strs a),.sl 1 (Strs b)] [] true (.v (.bool (decide (a = b)))) [] := by
 refine Jc mix JUy ⟨by simp,by simp,by simp⟩ ?_
 have st:∀ (j:Nat) (h1:j < a.length) (h2:j < b.length),a.take j = b.take j → a[j] = b[j] → a.take (j + 1) = b.take (j + 1):=by
  intro j h1 h2 h h3
  rw [Jki _ _ h1,Jki _ _ h2,h,h3]
 by_cases hl:a.length = b.length
 ·simp [hl]
  refine go_up a.length (fun j (_:Unit)=>a.take j = b.take j) (fun j (_:Unit) c=>⟨[(0,.sl 1 (Strs a)),(1,.sl 1 (Strs b)),(12,.v (.int .i64 (b.length:Nat))),(13,.v (.int .i64 (j:Nat)))],[],c⟩) () _ (Weak.refl _) (by simp) ?_ ?_
  ·intro j _ c hj hx
   have hw:IntKind.i64.wrap ((j:Int) + 1) = ((j + 1:Nat):Int):=Jf (by omega)
   have hj2:j < b.length:=by omega
   by_cases he:a[j] = b[j]
   ·simp [hj,hj2,he,hw]
    exact ⟨(),_,Weak.refl _,st j hj hj2 hx he⟩
   ·have hne:¬ a = b:=by intro e; subst e; exact he rfl
    have hq:(a[j] == b[j]) = false:=beq_eq_false_iff_ne.2 he
    simp [hj,hj2,hq,hw]
    refine Jb (.inr rfl) ?_
    simp [hne]
  ·intro _ c hx
   have he:a = b:=by rw [List.take_length,hl,List.take_length] at hx; exact hx
   simp [hl]
   refine Jb (.inr rfl) ?_
   simp [he]
 ·have hne:¬ a = b:=by intro e; subst e; exact hl rfl
  have c1:¬ (a.length:Int) = (b.length:Nat):=by omega
  simp [hl,c1]
  refine Jb (.inr rfl) ?_
  simp [hne]
def Rep.same (a b:Rep) : Bool := decide (a.client = b.client) && decide (a.num = b.num) && decide (a.code = b.code) && decide (a.vals = b.vals)
theorem JcU (a b:Rep) (ha:a.vals.length ≤ 1000000000) : Meets Tryz.prog G JGD [a.avS,b.avS] [] true (.v (.bool (a.same b))) [] := by
 refine Jc mix JXK ⟨by simp,by simp,by simp⟩ ?_
 unfold Rep.same
 by_cases c1:a.client = b.client
 ·by_cases c2:a.num = b.num
  ·by_cases c3:a.code = b.code
   ·simp [Rep.avS,c1,c2,c3]
    refine Ja (JQ8 a.vals b.vals ha) ?_ ?_
    ·simp
    simp
    refine Jb (.inr rfl) ?_
    simp
   ·simp [Rep.avS,c1,c2,c3]
    refine Jb (.inr rfl) ?_
    simp
  ·simp [Rep.avS,c1,c2]
   refine Jb (.inr rfl) ?_
   simp
 ·simp [Rep.avS,c1]
  refine Jb (.inr rfl) ?_
  simp
end
section
open Go Go.Proofs Go.Shelf Go.RowKit Go.Lib
def rhoIx : Ren := ⟨fun x=>if x = 6 then 98 else x,fun x=>if x = 22 then 22 else if x = 23 then 98 else if x = 25 then 99 else if x = 3 then 3 else if x = 4 then 4 else x,fun x=>x⟩
theorem layIx : SlLaysH0.n6 Tryz.prog rhoIx where
 mixed:=mix
 f6:=⟨Tryz.f98.name,by kernel_rfl,by kernel_rfl⟩
 t0:=by kernel_rfl
 a0:=fun w=>Jgp (by kernel_rfl) w
 z0:=fun w=>JP (by kernel_rfl) w
 v0:=fun _=>by kernel_rfl
 t3:=by kernel_rfl
 a3:=fun w=>Jgp (by kernel_rfl) w
 z3:=fun w=>JP (by kernel_rfl) w
 v3:=fun _=>by kernel_rfl
 t4:=by kernel_rfl
 a4:=fun w=>Jgp (by kernel_rfl) w
 z4:=fun w=>JP (by kernel_rfl) w
 v4:=fun _=>by kernel_rfl
 t22:=by kernel_rfl
 a22:=fun w=>Jgp (by kernel_rfl) w
 z22:=fun w=>JP (by kernel_rfl) w
 v22:=fun _=>by kernel_rfl
 t25:=by kernel_rfl
 a25:=fun w=>Jgp (by kernel_rfl) w
 z25:=fun w=>JP (by kernel_rfl) w
 v25:=fun _=>by kernel_rfl
def encMem (m:Mem) : List Value := .int .i64 m.id :: (m.root.bs.map (fun b=>Value.int .u8 (b.toNat:Int)) ++ [.int .i64 m.height])
theorem JXh (m:Mem) : (encMem m).length = 34 := by simp [encMem]
theorem predId (id:Int) (B:Nat) (w:World) (hB:B < w.heap.size) (hcell:w.cell? ⟨B,0,none⟩ = some (.int .i64 id)) :
 PredBelow Tryz.prog 99 #[.pointer (some ⟨B,0,none⟩)] (fun m:Mem=>.agg (encMem m).toArray) (fun m=>decide (m.id = id)) w:=fun W x hb=>by
 have hc:W.cell? ⟨B,0,none⟩ = some (.int .i64 id):=(hb.cell (p:=⟨B,0,none⟩) hB).trans hcell
 have hBW:B < W.heap.size:=Nat.lt_of_lt_of_le hB hb.size
 have hne:B ≠ W.heap.size:=by omega
 show Calls Tryz.prog 99 #[.agg (encMem x).toArray,.pointer (some ⟨B,0,none⟩)] W _
 have he:(encMem x).toArray = (Value.int .i64 x.id :: (x.root.bs.map (fun b=>Value.int .u8 (b.toNat:Int)) ++ [.int .i64 x.height])).toArray:=rfl
 rw [he]
 generalize (x.root.bs.map (fun b=>Value.int .u8 (b.toNat:Int)) ++ [Value.int .i64 x.height]) = rest
 go_enter Tryz.func99,Tryz.ntmps99
 go_wp2
 all_goals (go_ret; exact ⟨by simp_all; rw [Bool.eq_iff_iff]; simp,hb.alloc hb.size _⟩)
instance : Inhabited Mem := ⟨⟨0,Dg.zero,0⟩⟩
def idxOf (ms:List Mem) (id:Int) : Int := Lib.idxBy (fun _ y:Mem=>decide (y.id = id)) ms default
theorem JLh (ms:List Mem) (id:Int) : (idxOf ms id = -1) ∨ ∃ k : Nat,k < ms.length ∧ idxOf ms id = (k:Int) := by
 by_cases h:∃ k,k < ms.length ∧ (ms[k]!).id = id
 ·right
  obtain ⟨k,hk,hm⟩:∃ k,k < ms.length ∧ (ms[k]!).id = id ∧ ∀ j,j < k → (ms[j]!).id ≠ id:=by
   obtain ⟨k,hk,hid⟩:=h
   induction k using Nat.strongRecOn with
   | ind k ih =>
     by_cases hj:∃ j,j < k ∧ (ms[j]!).id = id
     ·obtain ⟨j,hjk,hjid⟩:=hj
      exact ih j hjk (by omega) hjid
     ·exact ⟨k,hk,hid,fun j hjk hjid=>hj ⟨j,hjk,hjid⟩⟩
  refine ⟨k,hk,?_⟩
  have:=Lib.idxBy_hit (fun _ y:Mem=>decide (y.id = id)) ms ms.length k default hk (Nat.le_refl _) (decide_eq_true hm.1) (fun j hj=>decide_eq_false (hm.2 j hj))
  rwa [List.take_length] at this
 ·left
  have:=Lib.idxBy_miss (fun _ y:Mem=>decide (y.id = id)) ms ms.length default (fun j hj=>by
   simp only [decide_eq_false_iff_not]
   exact fun hid=>h ⟨j,hj,hid⟩)
  rwa [List.take_length] at this
theorem JVs (id:Int) (b off cap B:Nat) (ms:List Mem) (w:World) (hbig:ms.length ≤ 9223372036854775807) (hb:b < w.heap.size) (hB:B < w.heap.size) (hid:w.cell? ⟨B,0,none⟩ = some (.int .i64 id))
 (hc:∀ j,j < ms.length → ∀ i v,(encMem ms[j]!)[i]? = some v → w.cell? ⟨b,off + j * 34 + i,none⟩ = some v) :
 Calls Tryz.prog 98 #[.slice (some ⟨b,off,none⟩) ms.length cap,.func (.func 99) #[] #[.pointer (some ⟨B,0,none⟩)]] w fun ex w'=>ex = .returned (.int .i64 (idxOf ms id)) ∧ Below w.heap.size w w':=by
 have eg:∀ args w,(callFunc 99 args).run Tryz.prog w = .ok (.enter 99 args) w:=enters_of Tryz.func99 (by kernel_rfl) rfl
 have h:=AnyQ.slices_IndexFunc layIx 34 (fun w=>Jgp (by kernel_rfl) w) (fun w=>JP (by kernel_rfl) w) encMem JXh (fun y:Mem=>decide (y.id = id)) 99 #[.pointer (some ⟨B,0,none⟩)] eg b off ms.length cap ms w
  (predId id B w hB hid) (Nat.le_refl _) hbig hb hc
 rw [List.take_length] at h
 exact h
end
section
open Go
set_option maxHeartbeats 4000000
variable {G:Nat → Option AV}
theorem JPL (bs:Bytes) (s:Sig) (h:s.ok = false) : Meets Tryz.prog G Jbk [.ptr 1000 0 0,s.avS] (wrM 0 bs) true (.v (.bool false)) (wrM 1 bs) := by
 refine Jc mix JMZ ⟨by simp [wrM],by simp,by simp [wrM]⟩ ?_
 simp only [Sig.ok,decide_eq_false_iff_not] at h
 by_cases h1:s.op.length = 32
 ·by_cases h2:s.sh.length = 32
  ·have h3:6 < s.path.length:=by omega
   have h3i:(6:Int) < (s.path.length:Nat):=by omega
   simp [Sig.avS,wrM,h1,h2,h3,h3i]
   refine Jb (.inr rfl) ?_
   simp
  ·have h2i:¬ (s.sh.length:Int) = 32:=by omega
   simp [Sig.avS,wrM,h1,h2,h2i]
   refine Jb (.inr rfl) ?_
   simp
 ·have h1i:¬ (s.op.length:Int) = 32:=by omega
  simp [Sig.avS,wrM,h1,h1i]
  refine Jb (.inr rfl) ?_
  simp
theorem JmH (bs:Bytes) (s:Sig) (h:s.ok = true) (hb:bs.length ≤ 50000000) : Meets Tryz.prog G Jbk [.ptr 1000 0 0,s.avS] (wrM 0 bs) true (.v (.bool true)) (wrM 1 (bs ++ s.bytes)) := by
 refine Jc mix JMZ ⟨by simp [wrM],by simp,by simp [wrM]⟩ ?_
 simp only [Sig.ok,decide_eq_true_eq] at h
 obtain ⟨h1,h2,h3⟩:=h
 have h1i:(s.op.length:Int) = 32:=by omega
 have h2i:(s.sh.length:Int) = 32:=by omega
 have h3i:¬ (6:Int) < (s.path.length:Nat):=by omega
 have h3n:¬ 6 < s.path.length:=by omega
 have hbts:s.bytes = nums [s.leaf,(s.path.length:Int)] ++ (flatD s.op ++ (flatD s.sh ++ flatD s.path)):=rfl
 rw [hbts]
 have n1:=Jh [s.leaf,(s.path.length:Int)]
 have n2:=Jbq s.op
 have n3:=Jbq s.sh
 simp only [List.length_cons,List.length_nil] at n1
 have m1:=Jz (G:=G) bs [s.leaf,(s.path.length:Int)] (by simp; omega)
 generalize nums [s.leaf,(s.path.length:Int)] = x1 at *
 have m2:=JT (G:=G) (bs ++ x1) s.op (by simp only [List.length_append]; omega)
 generalize flatD s.op = x2 at *
 have m3:=JT (G:=G) (bs ++ x1 ++ x2) s.sh (by simp only [List.length_append]; omega)
 generalize flatD s.sh = x3 at *
 have m4:=JT (G:=G) (bs ++ x1 ++ x2 ++ x3) s.path (by simp only [List.length_append]; omega)
 generalize flatD s.path = x4 at *
 have e:bs ++ (x1 ++ (x2 ++ (x3 ++ x4))) = bs ++ x1 ++ x2 ++ x3 ++ x4:=by simp
 rw [e]
 generalize bs ++ x1 ++ x2 ++ x3 ++ x4 = y4 at *
 generalize bs ++ x1 ++ x2 ++ x3 = y3 at *
 generalize bs ++ x1 ++ x2 = y2 at *
 generalize bs ++ x1 = y1 at *
 simp [Sig.avS,wrM,h1,h2,h3n,h3i]
 refine Ja m1 ?_ ?_
 ·simp [wrM,I64_2]
 simp [wrM,I64_2]
 refine Ja m2 ?_ ?_
 ·simp [wrM]
 simp [wrM]
 refine Ja m3 ?_ ?_
 ·simp [wrM]
 simp [wrM]
 refine Ja m4 ?_ ?_
 ·simp [wrM]
 simp [wrM]
 refine Jb (.inr rfl) ?_
 simp
def kdM (c:Nat) (q:Rd) (leaf:Int) (o s p:List Dg) : List (Nat × Loc) :=
 [(2,.var c (.node [.v (.int .i64 0),.node [.v (.slice none 0 0),.v (.slice none 0 0)],.v (.slice none 0 0)])),(3,.var c (.node [.v (.int .i64 leaf),.node [.row 22 32 c 0 o.length,.row 34 32 c 0 s.length],.row 46 32 c 0 p.length])),
  (22,.rows c 32 (Dgs o)),(34,.rows c 32 (Dgs s)),(46,.rows c 32 (Dgs p)),
  (1000,.var 0 (.node [.row 2000 1 c q.pre.length q.s.length,.v (.bool q.bad)])),(2000,.rows c 1 (B (q.pre ++ q.s)))]
theorem JVE (r:Rd) : Meets Tryz.prog G JgH [.ptr 1000 0 0] (rdM 0 r) true (Sig.avR 3000 4000 5000 1 r.sig) (rdM 1 r.sig' ++ Sig.rows 3000 4000 5000 1 r.sig) := by
 refine Jc mix JT0 ⟨by simp [rdM,Sig.rows],by simp [rdM,Sig.rows,Sig.avR],by simp [rdM,Sig.rows]⟩ ?_
 obtain ⟨hN,hN2⟩:=r.sN_eq
 have m1:=Jox (G:=G) r
 have m2:=Js (G:=G) r.num' 0 6
 rw [← hN] at m2
 have m3:=J2 (G:=G) r.s2
 have hs2:r.num'.inn' 0 6 = r.s2:=rfl
 rw [hs2] at m2
 cases hb:r.s2.bad
 ·have hsig':r.sig' = ((r.s2.ds' 32).ds' 32).ds' r.sN:=rfl
  have hsig:r.sig = if (((r.s2.ds' 32).ds' 32).ds' r.sN).bad = true then Sig.zero else ⟨r.num,r.s2.ds 32,(r.s2.ds' 32).ds 32,((r.s2.ds' 32).ds' 32).ds r.sN⟩:=rfl
  rw [hsig',hsig]
  generalize r.sN = N at *
  generalize r.num' = r1 at *
  generalize r.num = lf at *
  generalize r.s2 = r2 at *
  obtain ⟨M,hM⟩:∃ M,M = 32:=⟨_,rfl⟩
  rw [← hM]
  simp [rdM]
  refine Ja m1 ?_ ?_
  ·simp [rdM]
  simp [rdM]
  refine Ja m2 ?_ ?_
  ·simp [rdM]
  simp [rdM]
  refine Ja m3 ?_ ?_
  ·simp [rdM]
  simp [rdM,hb]
  refine go_up M (fun j (_:Unit)=>True) (fun j _ c=>⟨[(0,.ptr 1000 0 0),(2,.ptr 2 c 0),(3,.ptr 3 c 0),(4,.v (.int .i64 (N:Nat))),(14,.v (.int .i64 (j:Nat)))],kdM c (r2.ds' j) lf (r2.ds j) [] [],c + 1⟩) () _ (Weak.re0 1000 (by simp [kdM,Rd.ds,Rd.ds',hb])) trivial ?_ ?_
  ·intro j _ c hj _
   have hw:IntKind.i64.wrap ((j:Int) + 1) = ((j + 1:Nat):Int):=Jf (by omega)
   have f1:fitsB (j + 1) 32:=fits (by omega) (by omega)
   have hj32:(j:Int) < 32:=by omega
   have e1:r2.ds (j + 1) = r2.ds j ++ [(r2.ds' j).dg]:=rfl
   have e2:r2.ds' (j + 1) = (r2.ds' j).dg':=rfl
   have hl:=r2.ds_length j
   generalize r2.ds j = x at *
   generalize r2.ds' j = q at *
   have m5:=JW (G:=G) q
   generalize q.dg' = q' at *
   generalize q.dg = t at *
   simp [hj32,kdM]
   refine Ja m5 ?_ ?_
   ·simp [rdM]
   simp [rdM,f1,hl,hw,Jlh]
   exact ⟨(),_,Weak.re0 1000 (by simp [kdM,e1,e2,hl]),trivial⟩
  ·intro _ c _
   have hM32:¬ (M:Int) < 32:=by omega
   generalize hq2:r2.ds' M = r3 at *
   have hol:=r2.ds_length M
   generalize r2.ds M = o at *
   simp [kdM,hM32]
   refine go_up M (fun j (_:Unit)=>True) (fun j _ c=>⟨[(0,.ptr 1000 0 0),(2,.ptr 2 c 0),(3,.ptr 3 c 0),(4,.v (.int .i64 (N:Nat))),(26,.v (.int .i64 (j:Nat)))],kdM c (r3.ds' j) lf o (r3.ds j) [],c + 1⟩) () _ (Weak.re0 1000 (by simp [kdM,Rd.ds,Rd.ds'])) trivial ?_ ?_
   ·intro j _ c hj _
    have hw:IntKind.i64.wrap ((j:Int) + 1) = ((j + 1:Nat):Int):=Jf (by omega)
    have f1:fitsB (j + 1) 32:=fits (by omega) (by omega)
    have hj32:(j:Int) < 32:=by omega
    have e1:r3.ds (j + 1) = r3.ds j ++ [(r3.ds' j).dg]:=rfl
    have e2:r3.ds' (j + 1) = (r3.ds' j).dg':=rfl
    have hl:=r3.ds_length j
    generalize r3.ds j = x at *
    generalize r3.ds' j = q at *
    have m5:=JW (G:=G) q
    generalize q.dg' = q' at *
    generalize q.dg = t at *
    simp [hj32,kdM]
    refine Ja m5 ?_ ?_
    ·simp [rdM]
    simp [rdM,f1,hl,hw,Jlh]
    exact ⟨(),_,Weak.re0 1000 (by simp [kdM,e1,e2,hl]),trivial⟩
   ·intro _ c _
    have hsl:=r3.ds_length M
    generalize hq3:r3.ds' M = r4 at *
    generalize r3.ds M = s at *
    simp [kdM,hM32]
    refine go_up N (fun j (_:Unit)=>True) (fun j _ c=>⟨[(0,.ptr 1000 0 0),(2,.ptr 2 c 0),(3,.ptr 3 c 0),(38,.v (.int .i64 (N:Nat))),(39,.v (.int .i64 (j:Nat)))],kdM c (r4.ds' j) lf o s (r4.ds j),c + 1⟩) () _ (Weak.re0 1000 (by simp [kdM,Rd.ds,Rd.ds'])) trivial ?_ ?_
    ·intro j _ c hj _
     have hw:IntKind.i64.wrap ((j:Int) + 1) = ((j + 1:Nat):Int):=Jf (by omega)
     have f1:fitsB (j + 1) 32:=fits (by omega) (by omega)
     have e1:r4.ds (j + 1) = r4.ds j ++ [(r4.ds' j).dg]:=rfl
     have e2:r4.ds' (j + 1) = (r4.ds' j).dg':=rfl
     have hl:=r4.ds_length j
     generalize r4.ds j = x at *
     generalize r4.ds' j = q at *
     have m5:=JW (G:=G) q
     generalize q.dg' = q' at *
     generalize q.dg = t at *
     simp [hj,kdM]
     refine Ja m5 ?_ ?_
     ·simp [rdM]
     simp [rdM,f1,hl,hw,Jlh]
     exact ⟨(),_,Weak.re0 1000 (by simp [kdM,e1,e2,hl]),trivial⟩
    ·intro _ c _
     have hpl:=r4.ds_length N
     generalize r4.ds' N = r5 at *
     generalize r4.ds N = p at *
     have m6:=J2 (G:=G) r5
     simp [kdM]
     refine Ja m6 ?_ ?_
     ·simp [rdM]
     cases hb5:r5.bad
     ·simp [rdM,hb5]
      refine Jb (.inr rfl) ?_
      simp [Sig.avR,Sig.rows,hb5]
     ·simp [rdM,hb5]
      refine Jb (.inr rfl) ?_
      simp [Sig.avR,Sig.rows,Sig.zero,hb5]
 ·obtain ⟨e1,e2⟩:=r.sig_fault hb
  have e3:r.sig = Sig.zero:=by unfold Rd.sig; rw [e2]; rfl
  rw [e2,e3]
  rw [e1] at m2 m3 hb
  generalize r.sN = N at *
  generalize r.num' = r1 at *
  generalize r.num = lf at *
  simp [rdM]
  refine Ja m1 ?_ ?_
  ·simp [rdM]
  simp [rdM]
  refine Ja m2 ?_ ?_
  ·simp [rdM]
  simp [rdM]
  refine Ja m3 ?_ ?_
  ·simp [rdM]
  simp [rdM,hb]
  refine Jb (.inr rfl) ?_
  simp [Sig.avR,Sig.rows,Sig.zero,hb]
end
section
open Go
set_option maxHeartbeats 4000000
variable {G:Nat → Option AV}
theorem Dgs_3 (a b c:Dg) : [AV.arr 1 (B a.bs),.arr 1 (B b.bs),.arr 1 (B c.bs)] = Dgs [a,b,c] := (rfl)
theorem JT3 (b:Blk) : Meets Tryz.prog G JpQ [b.avS] [] true (.v (.bool b.good)) [] := by
 refine Jc mix JTz ⟨by simp,by simp,by simp⟩ ?_
 unfold Blk.good
 by_cases c1:b.epoch < 0
 ·have d1:¬ 0 ≤ b.epoch:=by omega
  simp [Blk.avS,c1]
  refine Jb (.inr rfl) ?_
  simp [d1]
 by_cases c2:1073741824 < b.epoch
 ·have d1:¬ b.epoch ≤ 1073741824:=by omega
  simp [Blk.avS,c1,c2]
  refine Jb (.inr rfl) ?_
  simp [d1]
 by_cases c3:b.height < 1
 ·have d1:¬ 1 ≤ b.height:=by omega
  simp [Blk.avS,c1,c2,c3]
  refine Jb (.inr rfl) ?_
  simp [d1]
 by_cases c4:1024 < b.height
 ·have d1:¬ b.height ≤ 1024:=by omega
  simp [Blk.avS,c1,c2,c3,c4]
  refine Jb (.inr rfl) ?_
  simp [d1]
 by_cases c5:(8:Int) < (b.qs.length:Nat)
 ·have d1:¬ b.qs.length ≤ 8:=by omega
  simp [Blk.avS,c1,c2,c3,c4,c5]
  refine Jb (.inr rfl) ?_
  simp [d1]
 have d:(decide (0 ≤ b.epoch) && decide (b.epoch ≤ 1073741824) && decide (1 ≤ b.height) && decide (b.height ≤ 1024) && decide (b.qs.length ≤ 8)) = true:=by
  simp only [Bool.and_eq_true,decide_eq_true_eq]; omega
 rw [d,Bool.true_and]
 generalize hqs:b.qs = qs at *
 simp [Blk.avS,c1,c2,c3,c4,c5,hqs]
 refine go_up qs.length (fun j (_:Unit)=>∀ i (h:i < qs.length),i < j → qs[i].good = true) (fun j (_:Unit) c=>⟨[(30,.sl 42 (Reqs qs)),(31,.v (.int .i64 (qs.length:Nat))),(32,.v (.int .i64 (j:Nat)))],[],c + 1⟩) () _ (Weak.re (by simp)) (by intro i _ h; omega) ?_ ?_
 ·intro j _ c hj hx
  have hw:IntKind.i64.wrap ((j:Int) + 1) = ((j + 1:Nat):Int):=Jf (by omega)
  have m1:=JF8 (G:=G) qs[j]
  simp [hj,Req.av,Chg.av]
  refine Ja m1 ?_ ?_
  ·simp [Req.av,Chg.av]
  cases hg:qs[j].good
  ·have hf:qs.all Req.good = false:=by
    rw [List.all_eq_false]
    exact ⟨qs[j],List.getElem_mem hj,by simp [hg]⟩
   simp
   refine Jb (.inr rfl) ?_
   simp [hf]
  ·simp [hw]
   refine ⟨(),_,Weak.re (by simp),?_⟩
   intro i hi hij
   rcases (show i < j ∨ i = j by omega) with h | rfl
   ·exact hx i hi h
   ·exact hg
 ·intro _ c hx
  have hf:qs.all Req.good = true:=by
   rw [List.all_eq_true]
   intro q hq
   obtain ⟨i,hi,rfl⟩:=List.getElem_of_mem hq
   exact hx i hi hi
  simp
  refine Jb (.inr rfl) ?_
  simp [hf]
theorem Jho (bs:Bytes) (b:Blk) (h:bs.length + b.bytes.length ≤ 60000000) (hn:b.qs.length ≤ 1000000) : Meets Tryz.prog G J8 [.ptr 1000 0 0,b.avS] (wrM 0 bs) true (.tup []) (wrM 1 (bs ++ b.bytes)) := by
 refine Jc mix JQh ⟨by simp [wrM],by simp,by simp [wrM]⟩ ?_
 have hlen:=b.bytes_len
 have hhl:=b.head_len
 have hb:bs ++ b.bytes = bs ++ nums [b.epoch,b.height] ++ flatD [b.prev,b.state,b.next] ++ nums [(b.qs.length:Int)] ++ reqsB b.qs:=by simp [Blk.bytes,Blk.head]
 have n1:=Jh [b.epoch,b.height]
 have n2:=Jh [(b.qs.length:Int)]
 have n3:(flatD [b.prev,b.state,b.next]).length = 96:=by simp [flatD]
 simp only [List.length_cons,List.length_nil] at n1 n2
 have m1:=Jz (G:=G) bs [b.epoch,b.height] (by simp; omega)
 have m2:=JT (G:=G) (bs ++ nums [b.epoch,b.height]) [b.prev,b.state,b.next] (by rw [List.length_append]; simp; omega)
 have m3:=Jz (G:=G) (bs ++ nums [b.epoch,b.height] ++ flatD [b.prev,b.state,b.next]) [(b.qs.length:Int)] (by simp only [List.length_append]; simp; omega)
 have hl3:(bs ++ nums [b.epoch,b.height] ++ flatD [b.prev,b.state,b.next] ++ nums [(b.qs.length:Int)]).length = bs.length + 120:=by simp only [List.length_append]; omega
 rw [hb]
 generalize bs ++ nums [b.epoch,b.height] ++ flatD [b.prev,b.state,b.next] ++ nums [(b.qs.length:Int)] = y3 at *
 generalize bs ++ nums [b.epoch,b.height] ++ flatD [b.prev,b.state,b.next] = y2 at *
 generalize bs ++ nums [b.epoch,b.height] = y1 at *
 generalize hqs:b.qs = qs at *
 have hI1:[AV.v (.int .i64 (qs.length:Nat))] = I64 [(qs.length:Int)]:=rfl
 simp [Blk.avS,wrM,hqs]
 refine Ja m1 ?_ ?_
 ·simp [wrM,I64_2]
 simp [wrM,I64_2]
 refine Ja m2 ?_ ?_
 ·simp [wrM,Dgs_3,dv]
 simp [wrM,Dgs_3,dv]
 refine Ja m3 ?_ ?_
 ·simp [wrM,hI1]
 simp [wrM,hI1]
 obtain ⟨F,hF⟩:∃ F:Nat → Bytes,∀ i,F i = y3 ++ reqsB (qs.take i):=⟨_,fun _=>rfl⟩
 have hF0:y3 = F 0:=by rw [hF]; simp [reqsB]
 have hFN:y3 ++ reqsB qs = F qs.length:=by rw [hF,List.take_length]
 have hFl:(F qs.length).length = (F 0).length + (reqsB qs).length:=by rw [← hFN,← hF0,List.length_append]
 rw [hFN]
 simp only [hF0]
 refine go_up qs.length (fun j (_:Unit)=>True) (fun j _ c=>⟨[(0,.ptr 1000 0 0),(29,.sl 42 (Reqs qs)),(30,.v (.int .i64 (qs.length:Nat))),(31,.v (.int .i64 (j:Nat)))],[(1000,.var 0 (.node [.row 2000 1 c 0 (F j).length])),(2000,.rows c 1 (B (F j)))],c + 1⟩) () _ (Weak.re0 1000 (by simp)) trivial ?_ ?_
 ·intro j _ c hj _
  have hw:IntKind.i64.wrap ((j:Int) + 1) = ((j + 1:Nat):Int):=Jf (by omega)
  have hle:=JQT qs (j + 1)
  rw [JPU qs j hj,List.length_append] at hle
  have hFj:(F j).length = y3.length + (reqsB (qs.take j)).length:=by rw [hF,List.length_append]
  have hFs:F j ++ qs[j].bytes = F (j + 1):=by rw [hF,hF,JPU qs j hj,List.append_assoc]
  have m4:=JMf (G:=G) (F j) qs[j] (by omega)
  rw [hFs] at m4
  simp [hj,Req.av,Chg.av]
  refine Ja m4 ?_ ?_
  ·simp [wrM,Req.av,Chg.av]
  simp [wrM,hw,Req.av,Chg.av]
  exact ⟨(),_,Weak.re0 1000 (by simp),trivial⟩
 ·intro _ c _
  simp
  refine Jb (.inl rfl) ?_
  simp [hFl]
end
section
open Go
set_option maxHeartbeats 4000000
variable {G:Nat → Option AV}
theorem JRH (r:Rd) : Meets Tryz.prog G JbQ [.ptr 1000 0 0] (rfM r) true (r.rep.avR 3000 1) (rfM r.rep' ++ [(3000,.rows 1 1 (Strs r.rep.vals))]) := by
 refine Jc mix JN3 ⟨by simp [rfM],by simp [rfM,Rep.avR],by simp [rfM]⟩ ?_
 obtain ⟨hN,hN2⟩:=r.repN_eq
 have hsane:∀ n,(r.p4.tx' n).sane:=r.p4.tx_sane (Rd.inn_sane _ _ _)
 have hrep:r.rep = if (r.p4.tx' r.repN).bad = true then Rep.zero else ⟨r.inn 1 64,r.p1.inn 1 1099511627776,r.p2.inn 0 1024,r.p4.tx r.repN⟩:=rfl
 have hrep':r.rep' = r.p4.tx' r.repN:=rfl
 rw [hrep,hrep']
 generalize r.repN = N at *
 unfold Rd.p4 Rd.p3 Rd.p2 Rd.p1 at *
 have m1:=Jo (G:=G) r 1 64
 generalize r.inn' 1 64 = r1 at *
 have m2:=Jo (G:=G) r1 1 1099511627776
 generalize r1.inn' 1 1099511627776 = r2 at *
 have m3:=Jo (G:=G) r2 0 1024
 generalize r2.inn' 0 1024 = r3 at *
 have m4:=Jo (G:=G) r3 0 256
 rw [← hN] at m4
 generalize r3.inn' 0 256 = r4 at *
 generalize r.inn 1 64 = a1 at *
 generalize r1.inn 1 1099511627776 = a2 at *
 generalize r2.inn 0 1024 = a3 at *
 simp [rfM]
 refine Ja m1 ?_ ?_
 ·simp [rfM]
 simp [rfM]
 refine Ja m2 ?_ ?_
 ·simp [rfM]
 simp [rfM]
 refine Ja m3 ?_ ?_
 ·simp [rfM]
 simp [rfM]
 refine Ja m4 ?_ ?_
 ·simp [rfM]
 simp [rfM]
 refine go_up N (fun j (_:Unit)=>True) (fun j _ c=>⟨[(0,.ptr 1000 0 0),(2,.ptr 2 c 0),(3,.ptr 3 c 0),(4,.v (.int .i64 (N:Nat))),(5,.v (.int .i64 (j:Nat)))],
  [(2,.var c (.node [.v (.int .i64 0),.v (.int .i64 0),.v (.int .i64 0),.v (.slice none 0 0)])),(3,.var c (.node [.v (.int .i64 a1),.v (.int .i64 a2),.v (.int .i64 a3),.row 31 1 c 0 j])),(31,.rows c 1 (Strs (r4.tx j))),
   (1000,.var 0 (.node [.v (.string (mkS (r4.tx' j).s)),.v (.bool (r4.tx' j).bad)]))],c + 1⟩) () _ (Weak.re0 1000 (by simp [Rd.tx,Rd.tx'])) trivial ?_ ?_
 ·intro j _ c hj _
  have hw:IntKind.i64.wrap ((j:Int) + 1) = ((j + 1:Nat):Int):=Jf (by omega)
  have f1:fitsB (j + 1) 16:=fits (by omega) (by omega)
  have e1:r4.tx (j + 1) = r4.tx j ++ [(r4.tx' j).text 1024]:=rfl
  have e2:r4.tx' (j + 1) = (r4.tx' j).text' 1024:=rfl
  have hl:=r4.tx_length j
  have hsj:=hsane j
  have hsN:=hsane N
  have hbN:=r4.tx_bad j
  have m6:=JJ (G:=G) (r4.tx' j)
  generalize r4.tx j = x at *
  cases hb:(r4.tx' j).bad
  ·generalize r4.tx' j = q at *
   have m5:=JjU (G:=G) q 1024
   generalize q.text' 1024 = q' at *
   generalize q.text 1024 = t at *
   have hS:Strs x ++ [AV.v (.string (mkS t))] = Strs (x ++ [t]):=by simp [Strs]
   simp [hj,rfM,hb]
   refine Ja m6 ?_ ?_
   ·simp [rfM,hb]
   simp [rfM,hb]
   refine Ja m5 ?_ ?_
   ·simp [rfM,hb]
   simp [rfM,f1,hl,hw,hS]
   exact ⟨(),_,Weak.re0 1000 (by simp [e1,e2]),trivial⟩
  ·have hbn:=hbN hb N (by omega)
   have s1:=hsj hb
   have s2:=hsN hbn
   generalize r4.tx' j = q at *
   generalize r4.tx' N = p at *
   simp [hj,rfM,hb]
   refine Ja m6 ?_ ?_
   ·simp [rfM,hb]
   simp [rfM,hb]
   refine Ja m6 ?_ ?_
   ·simp [rfM,hb]
   simp [rfM,hb]
   refine Jb (.inr rfl) ?_
   simp [Rep.avR,Rep.zero,hb,hbn,s1,s2]
 ·intro _ c _
  have hl:=r4.tx_length N
  generalize r4.tx N = x at *
  generalize r4.tx' N = q at *
  have m6:=JJ (G:=G) q
  simp [rfM]
  refine Ja m6 ?_ ?_
  ·simp [rfM]
  cases hb:q.bad
  ·simp [rfM,hb]
   refine Jb (.inr rfl) ?_
   simp [Rep.avR,hl,hb]
  ·simp [rfM,hb]
   refine Jb (.inr rfl) ?_
   simp [Rep.avR,Rep.zero,hb]
end
section
open Go
set_option maxHeartbeats 4000000
variable {G:Nat → Option AV}
def Blk.follows (b:Blk) (e h:Int) (p s:Dg) : Bool := b.good && (decide (b.epoch = e) && decide (b.height = h) && decide (b.prev = p) && decide (b.state = s))
end
section
open Go
set_option maxHeartbeats 4000000
variable {G:Nat → Option AV}
def Req.put : Req := ⟨1,1,2,[107],[118],[],Chg.zero⟩
def lenSum (ss:List Bytes) : Nat := (ss.map List.length).sum
theorem JOw (ss:List Bytes) : (txts ss).length = 4 * ss.length + lenSum ss := by
 induction ss with
 | nil=>rfl
 | cons a ss ih =>
   have e:txts (a :: ss) = txt a ++ txts ss:=by simp [txts]
   have e2:lenSum (a :: ss) = a.length + lenSum ss:=by simp [lenSum]
   rw [e,e2,List.length_append,Jo3,ih,List.length_cons]
   omega
end
section
open Go
set_option maxHeartbeats 4000000
variable {G:Nat → Option AV}
deriving instance DecidableEq for Chg,Req
end
section
open Go
set_option maxHeartbeats 4000000
variable {G:Nat → Option AV}
def Blk.great (b:Blk) (m:Nat) : Bool := decide (40 < b.qs.length) || decide (m < (reqsB b.qs).length)
end
section
open Go
set_option maxHeartbeats 4000000
variable {G:Nat → Option AV}
def Blk.same (a b:Blk) : Bool := decide (a.epoch = b.epoch) && decide (a.height = b.height) && decide (a.prev = b.prev) && decide (a.state = b.state) && decide (a.next = b.next) && decide (a.qs = b.qs)
end
section
open Go
set_option maxHeartbeats 4000000
variable {G:Nat → Option AV}
theorem JVF (r:Rd) : Meets Tryz.prog G Jbg [.ptr 1000 0 0] (rdM 0 r) true (r.blk.avR 3000 1) (rdM 1 r.blk' ++ [(3000,.rows 1 42 (Reqs r.blk.qs))]) := by
 refine Jc mix JRZ ⟨by simp [rdM],by simp [rdM,Blk.avR],by simp [rdM]⟩ ?_
 obtain ⟨hN,hN2⟩:=r.blkN_eq
 have hblk:r.blk = if (r.b6.rq' r.blkN).bad = true then Blk.zero else ⟨r.inn 0 1073741824,r.b1.inn 1 1024,r.b2.dg,r.b3.dg,r.b4.dg,r.b6.rq r.blkN⟩:=rfl
 have hblk':r.blk' = r.b6.rq' r.blkN:=rfl
 rw [hblk,hblk']
 generalize r.blkN = N at *
 unfold Rd.b6 Rd.b5 Rd.b4 Rd.b3 Rd.b2 Rd.b1 at *
 have m1:=Js (G:=G) r 0 1073741824
 generalize r.inn' 0 1073741824 = r1 at *
 have m2:=Js (G:=G) r1 1 1024
 generalize r1.inn' 1 1024 = r2 at *
 have m3:=JW (G:=G) r2
 generalize r2.dg' = r3 at *
 have m4:=JW (G:=G) r3
 generalize r3.dg' = r4 at *
 have m5:=JW (G:=G) r4
 generalize r4.dg' = r5 at *
 have m6:=Js (G:=G) r5 0 8
 rw [← hN] at m6
 generalize r5.inn' 0 8 = r6 at *
 generalize r.inn 0 1073741824 = a1 at *
 generalize r1.inn 1 1024 = a2 at *
 generalize r2.dg = a3 at *
 generalize r3.dg = a4 at *
 generalize r4.dg = a5 at *
 simp [rdM]
 refine Ja m1 ?_ ?_
 ·simp [rdM]
 simp [rdM]
 refine Ja m2 ?_ ?_
 ·simp [rdM]
 simp [rdM]
 refine Ja m3 ?_ ?_
 ·simp [rdM]
 simp [rdM]
 refine Ja m4 ?_ ?_
 ·simp [rdM]
 simp [rdM]
 refine Ja m5 ?_ ?_
 ·simp [rdM]
 simp [rdM,dv]
 refine Ja m6 ?_ ?_
 ·simp [rdM]
 simp [rdM,dv]
 refine go_up N (fun j (_:Unit)=>True) (fun j _ c=>⟨[(0,.ptr 1000 0 0),(2,.ptr 2 c 0),(3,.ptr 3 c 0),(16,.v (.int .i64 (N:Nat))),(17,.v (.int .i64 (j:Nat)))],
  [(2,.var c (.node [.v (.int .i64 0),.v (.int .i64 0),dv Dg.zero,dv Dg.zero,dv Dg.zero,.v (.slice none 0 0)])),(3,.var c (.node [.v (.int .i64 a1),.v (.int .i64 a2),dv a3,dv a4,dv a5,.row 24 42 c 0 j])),(24,.rows c 42 (Reqs (r6.rq j))),
   (1000,.var 0 (.node [.row 2000 1 c (r6.rq' j).pre.length (r6.rq' j).s.length,.v (.bool (r6.rq' j).bad)])),(2000,.rows c 1 (B ((r6.rq' j).pre ++ (r6.rq' j).s)))],c + 1⟩) () _ (Weak.re0 1000 (by simp [Rd.rq,Rd.rq',dv])) trivial ?_ ?_
 ·intro j _ c hj _
  have hw:IntKind.i64.wrap ((j:Int) + 1) = ((j + 1:Nat):Int):=Jf (by omega)
  have f1:fitsB (j + 1) 136:=fits (by omega) (by omega)
  have e1:r6.rq (j + 1) = r6.rq j ++ [(r6.rq' j).req]:=rfl
  have e2:r6.rq' (j + 1) = (r6.rq' j).req':=rfl
  have hl:=r6.rq_length j
  generalize r6.rq j = x at *
  generalize r6.rq' j = q at *
  have m7:=JOR (G:=G) q
  generalize q.req' = q' at *
  generalize q.req = t at *
  have hS:=JSy x t
  simp only [Req.av,Chg.av] at hS
  simp [hj,rdM,dv]
  refine Ja m7 ?_ ?_
  ·simp [rdM]
  simp [rdM,f1,hl,hw,hS,dv,Req.av,Chg.av]
  exact ⟨(),_,Weak.re0 1000 (by simp [e1,e2]),trivial⟩
 ·intro _ c _
  have hl:=r6.rq_length N
  generalize r6.rq N = x at *
  generalize r6.rq' N = q at *
  have m8:=J2 (G:=G) q
  simp [rdM,dv]
  refine Ja m8 ?_ ?_
  ·simp [rdM]
  cases hb:q.bad
  ·simp [rdM,hb,dv]
   refine Jb (.inr rfl) ?_
   simp [Blk.avR,hl,hb,dv]
  ·simp [rdM,hb,dv]
   refine Jb (.inr rfl) ?_
   simp [Blk.avR,Blk.zero,hb,dv]
end
end Go.Proofs.YtlajjoekbcjfnaaGreatDoor.WL
