import Derived.Test.YtlajjoekbcjfnaaGreatDoorWm9
namespace Go.Proofs.YtlajjoekbcjfnaaGreatDoor.WL
set_option linter.all false
section
open Go
set_option maxHeartbeats 4000000
attribute [local irreducible] rounds grow table
def Gt : Nat → Option AV := fun n => if n = 0 then some (.arr 1 (U table)) else none
def St.av (s:St) : AV := .arr 1 (U s.list)
def stM (s:St) : List (Nat × Loc) := [(1000,.var 0 s.av)]
theorem JZn (b:Bytes) (j:Nat) (h:j < 16) : (words b)[j]? = some (word4 (b.getD (4 * j) 0) (b.getD (4 * j + 1) 0) (b.getD (4 * j + 2) 0) (b.getD (4 * j + 3) 0)) := by simp [words,h]
theorem JNA (w:List UInt32) (z:List UInt32) (k:Nat) (hk:k ≤ w.length) (h0:0 < k) : (w ++ z)[w.length - k]? = some (w.getD (w.length - k) 0) := by
 rw [List.getElem?_append_left (by omega),List.getD_eq_getElem?_getD,List.getElem?_eq_getElem (by omega)]
 rfl
theorem J1m (w:List UInt32) (n:Nat) (v:UInt32) : (w ++ zeros32 (n + 1)).set w.length v = (w ++ [v]) ++ zeros32 n := by
 rw [List.set_append_right _ _ (Nat.le_refl _),Nat.sub_self,List.append_assoc]
 rfl
def plusL (s t:St) (j:Nat) : List UInt32 := (s.plus t).list.take j ++ s.list.drop j
theorem JYD (s t:St) (j:Nat) (h:j < 8) : (plusL s t j)[j]? = some (s.list.getD j 0) ∧ (plusL s t j).set j (s.list.getD j 0 + t.list.getD j 0) = plusL s t (j + 1) ∧ t.list[j]? = some (t.list.getD j 0) := by
 match j,h with
 | 0,_=>exact ⟨rfl,rfl,rfl⟩
 | 1,_=>exact ⟨rfl,rfl,rfl⟩
 | 2,_=>exact ⟨rfl,rfl,rfl⟩
 | 3,_=>exact ⟨rfl,rfl,rfl⟩
 | 4,_=>exact ⟨rfl,rfl,rfl⟩
 | 5,_=>exact ⟨rfl,rfl,rfl⟩
 | 6,_=>exact ⟨rfl,rfl,rfl⟩
 | 7,_=>exact ⟨rfl,rfl,rfl⟩
@[simp] theorem JS4 (s t:St) (j:Nat) (h:j ≤ 8) : (plusL s t j).length = 8 := by
 have h1:(s.plus t).list.length = 8:=rfl
 have h2:s.list.length = 8:=rfl
 simp only [plusL,List.length_append,List.length_take,List.length_drop,h1,h2]
 omega
theorem J4Z (s t:St) : plusL s t 8 = (s.plus t).list := rfl
theorem J4Q (s t:St) : plusL s t 0 = s.list := rfl
theorem J36 (s:St) (b:Bytes) (w:List UInt32) (N:Nat) (hN:N = 64) (h:grow 48 (words b) = w) : comp s b = s.plus (rounds w N s) := by subst hN h; rfl
theorem JNp (l:List UInt32) (j:Nat) (h:j < l.length) : l[j]? = some (l.getD j 0) := by
 rw [List.getD_eq_getElem?_getD,List.getElem?_eq_getElem h]
 rfl
def i16 (j:Nat) : Int := ((16 + j:Nat):Int)
@[simp] theorem i16_0 : i16 0 = 16 := rfl
@[simp] theorem J9C : i16 48 = 64 := rfl
theorem J2g (j:Nat) : i16 j = 16 + (j:Int) := by simp [i16]
theorem Jm5 {G:Nat → Option AV} (x:UInt32) (r:Nat) (k:Int) (h:(0 < r ∧ r < 32) ∧ k = -(r:Int)) : Meets Tryz.prog G Jl [wv x,.v (.int .i64 k)] [] true (wv (rotr x r)) [] := by
 obtain ⟨h1,rfl⟩:=h
 exact JYv x r h1
theorem shr3 (x:UInt32) : w32 x / (8:Int) = w32 (x >>> 3) := by have := JNY x 3 (by decide); simpa using this
theorem shr10 (x:UInt32) : w32 x / (1024:Int) = w32 (x >>> 10) := by have := JNY x 10 (by decide); simpa using this
theorem Jp8 (s:St) (b:Bytes) (hb:b.length = 64) : Meets Tryz.prog Gt J7 [.ptr 1000 0 0,.sl 1 (B b)] (stM s) true (.tup []) (stM (comp s b)) := by
 refine Jc mix JKR ⟨by simp [stM,St.av],by simp,by simp [stM]⟩ ?_
 simp [stM]
 refine go_up 16 (fun j (x:List UInt32)=>x = (words b).take j ++ zeros32 (64 - j)) (fun j x c=>⟨[(0,.ptr 1000 0 0),(1,.sl 1 (B b)),(4,.ptr 4 c 0),(26,.v (.int .i64 (j:Nat)))],[(4,.var c (.arr 1 (U x))),(1000,.var 0 s.av)],c + 1⟩)
  (zeros32 64) _ (Weak.re0 1000 (by simp [St.av])) (by simp) ?_ ?_
 ·intro j x c hj hx
  have hw:IntKind.i64.wrap ((j:Int) + 1) = ((j + 1:Nat):Int):=Jf (by omega)
  obtain ⟨q,hq⟩:∃ q:Nat,q = 4 * j:=⟨_,rfl⟩
  have hw4:IntKind.i64.wrap (4 * (j:Int)) = (q:Int):=by rw [Jp (by omega)]; omega
  have hb64:List.take 64 b = b:=List.take_of_length_le (by omega)
  have hj16:(j:Int) < 16:=by omega
  have hj64:(j:Int) < 64:=by omega
  have hjn:j < 64:=by omega
  have h4:q ≤ 64 ∧ (q:Int) ≤ 64:=by omega
  have hxl:x.length = 64:=by rw [hx]; simp; omega
  have hg:x.set j (word4 (b.getD (4 * j) 0) (b.getD (4 * j + 1) 0) (b.getD (4 * j + 2) 0) (b.getD (4 * j + 3) 0)) = (words b).take (j + 1) ++ zeros32 (64 - (j + 1)):=by
   have h1:=JTo (words b) 64 j (by simp; omega) (by simp)
   have h2:=JZn b j hj
   rw [List.getElem?_eq_getElem (by simp; omega)] at h2
   rw [Option.some.inj h2,← hx] at h1
   exact h1
  have hd:∀ k,(b.drop (4 * j)).getD k 0 = b.getD (4 * j + k) 0:=fun k=>by simp [List.getD_eq_getElem?_getD]
  have hc:=JXu (G:=Gt) (b.drop (4 * j)) (by simp; omega)
  rw [hd,hd,hd,hd] at hc
  rw [← hq] at hd hc hg
  generalize hv:word4 (b.getD q 0) (b.getD (q + 1) 0) (b.getD (q + 2) 0) (b.getD (q + 3) 0) = v at *
  simp [hj16,hw4,hb,h4,hb64]
  refine Ja hc ?_ ?_
  ·simp
  simp [hj64,hjn,hw,hxl,U_set,Nat.mod_one,hv]
  exact ⟨_,_,Weak.re0 1000 (by simp [hg,St.av]),rfl⟩
 ·intro x c hx
  simp
  refine go_up 48 (fun j (x:List UInt32)=>x = grow j (words b) ++ zeros32 (48 - j)) (fun j x c=>⟨[(0,.ptr 1000 0 0),(4,.ptr 4 c 0),(6,.v (.int .i64 (i16 j)))],[(4,.var c (.arr 1 (U x))),(1000,.var 0 s.av)],c + 1⟩)
   x _ (Weak.re0 1000 (by simp [St.av])) (by rw [hx,List.take_of_length_le (by simp),JZu]) ?_ ?_
  ·intro j x c hj hx
   have e:=J2g j
   have e1:=J2g (j + 1)
   have hw:IntKind.i64.wrap (i16 j + 1) = i16 (j + 1):=by rw [Jp (by omega)]; omega
   have a15:IntKind.i64.wrap (i16 j - 15) = ((j + 1:Nat):Int):=by rw [Jp (by omega)]; omega
   have a2:IntKind.i64.wrap (i16 j - 2) = ((j + 14:Nat):Int):=by rw [Jp (by omega)]; omega
   have a16:IntKind.i64.wrap (i16 j - 16) = ((j:Nat):Int):=by rw [Jp (by omega)]; omega
   have a7:IntKind.i64.wrap (i16 j - 7) = ((j + 9:Nat):Int):=by rw [Jp (by omega)]; omega
   have hlt:i16 j < 64:=by omega
   have hge:0 ≤ i16 j:=by omega
   have htn:(i16 j).toNat = 16 + j:=by omega
   have hxl:x.length = 64:=by rw [hx]; simp; omega
   obtain ⟨k1,hk1⟩:∃ k:Nat,k = j + 1:=⟨_,rfl⟩
   obtain ⟨k14,hk14⟩:∃ k:Nat,k = j + 14:=⟨_,rfl⟩
   obtain ⟨k9,hk9⟩:∃ k:Nat,k = j + 9:=⟨_,rfl⟩
   rw [← hk1] at a15
   rw [← hk14] at a2
   rw [← hk9] at a7
   have b1:(k1:Int) < 64 ∧ k1 < 64 ∧ (k14:Int) < 64 ∧ k14 < 64 ∧ (k9:Int) < 64 ∧ k9 < 64 ∧ (j:Int) < 64 ∧ j < 64 ∧ 16 + j < 64:=by omega
   have hgl:(grow j (words b)).length = 16 + j:=by simp
   have g15:=JNA (grow j (words b)) (zeros32 (48 - j)) 15 (by omega) (by omega)
   have g2:=JNA (grow j (words b)) (zeros32 (48 - j)) 2 (by omega) (by omega)
   have g16:=JNA (grow j (words b)) (zeros32 (48 - j)) 16 (by omega) (by omega)
   have g7:=JNA (grow j (words b)) (zeros32 (48 - j)) 7 (by omega) (by omega)
   rw [← hx] at g15 g2 g16 g7
   rw [hgl,show 16 + j - 15 = k1 by omega] at g15
   rw [hgl,show 16 + j - 2 = k14 by omega] at g2
   rw [hgl,show 16 + j - 16 = j by omega] at g16
   rw [hgl,show 16 + j - 7 = k9 by omega] at g7
   have hn:next (grow j (words b)) = (grow j (words b)).getD j 0 + s0 ((grow j (words b)).getD k1 0) + (grow j (words b)).getD k9 0 + s1 ((grow j (words b)).getD k14 0):=by
    unfold next
    rw [hgl,show 16 + j - 15 = k1 by omega,show 16 + j - 2 = k14 by omega,show 16 + j - 16 = j by omega,show 16 + j - 7 = k9 by omega]
   have hs:=J1m (grow j (words b)) (47 - j) (next (grow j (words b)))
   rw [show 47 - j + 1 = 48 - j by omega,← hx,hgl,hn,show 47 - j = 48 - (j + 1) by omega,← hn] at hs
   have e16:=(List.getElem?_eq_some_iff.1 g16).2
   have e7:=(List.getElem?_eq_some_iff.1 g7).2
   generalize (grow j (words b)).getD k1 0 = w15 at *
   generalize (grow j (words b)).getD k14 0 = w2 at *
   generalize (grow j (words b)).getD j 0 = w16 at *
   generalize (grow j (words b)).getD k9 0 = w7 at *
   simp [hlt,a15,a2,b1,g15,g2]
   refine Ja (Jm5 w15 7 (-7) (by decide)) ?_ ?_
   ·simp
   simp
   refine Ja (Jm5 w15 18 (-18) (by decide)) ?_ ?_
   ·simp
   simp [JGF,shr3]
   refine Ja (Jm5 w2 17 (-17) (by decide)) ?_ ?_
   ·simp
   simp
   refine Ja (Jm5 w2 19 (-19) (by decide)) ?_ ?_
   ·simp
   simp [JGF,shr10,a16,a7,b1,e16,e7,JQQ,hlt,hge,htn,hxl,U_set,hw]
   exact ⟨x.set (16 + j) (next (grow j (words b))),_,Weak.re0 1000 (by simp [St.av,hn,s0,s1]),hs.trans (by rw [← JZj])⟩
  ·intro x c hx
   have hx2:x = grow 48 (words b):=by rw [hx]; simp [zeros32]
   have hwl:(grow 48 (words b)).length = 64:=by simp
   subst hx2
   generalize hgw:grow 48 (words b) = w at *
   simp [St.av,St.list,hwl]
   obtain ⟨N,hN⟩:∃ N:Nat,N = 64:=⟨_,rfl⟩
   have hNI:(N:Int) = 64:=by omega
   refine go_up N (fun _ _=>True) (fun j (_:Unit) c=>⟨[(0,.ptr 1000 0 0),(11,wv (rounds w j s).a),(12,wv (rounds w j s).b),(13,wv (rounds w j s).c),(14,wv (rounds w j s).d),(15,wv (rounds w j s).e),(16,wv (rounds w j s).f),(17,wv (rounds w j s).g),(18,wv (rounds w j s).h),(112,.arr 1 (U w)),(113,.v (.int .i64 (j:Nat)))],[(1000,.var 0 (.arr 1 (U s.list)))],c + 1⟩)
    () _ (Weak.re0 1000 (by simp [St.list,JVw])) trivial ?_ ?_
   ·intro j _ c hj _
    have hw:IntKind.i64.wrap ((j:Int) + 1) = ((j + 1:Nat):Int):=Jf (by omega)
    have hj64:(j:Int) < 64:=by omega
    have gw:=JNp w j (by omega)
    have hj:j < 64:=by omega
    have gt:=JNp table j (by rw [JSQ]; exact hj)
    have ew:=(List.getElem?_eq_some_iff.1 gw).2
    have et:=(List.getElem?_eq_some_iff.1 gt).2
    have hr:rounds w (j + 1) s = (rounds w j s).round (table.getD j 0) (w.getD j 0):=JVl w j s
    generalize table.getD j 0 = kj at *
    generalize w.getD j 0 = wj at *
    generalize rounds w j s = r at *
    simp [hj64,hwl,hj,ew,et]
    refine Ja (Jm5 r.e 6 (-6) (by decide)) ?_ ?_
    ·simp
    simp
    refine Ja (Jm5 r.e 11 (-11) (by decide)) ?_ ?_
    ·simp
    simp [JGF]
    refine Ja (Jm5 r.e 25 (-25) (by decide)) ?_ ?_
    ·simp
    simp [JGF,JQQ,JZN,Gt,hj64,hj,ew,et]
    refine Ja (Jm5 r.a 2 (-2) (by decide)) ?_ ?_
    ·simp
    simp
    refine Ja (Jm5 r.a 13 (-13) (by decide)) ?_ ?_
    ·simp
    simp [JGF]
    refine Ja (Jm5 r.a 22 (-22) (by decide)) ?_ ?_
    ·simp
    simp [JGF,JQQ,JZN,hw]
    exact ⟨(),_,Weak.re0 1000 (by simp [hr,St.round,St.p,St.q]),trivial⟩
   ·intro _ c _
    have hcb:=J36 s b w N hN hgw
    have hp8:=J4Z s (rounds w N s)
    rw [← hcb] at hp8
    clear hcb hgw hx
    generalize rounds w N s = r at *
    generalize comp s b = q at *
    simp [hNI]
    refine go_up 8 (fun _ _=>True) (fun j (_:Unit) c=>⟨[(0,.ptr 1000 0 0),(185,.arr 1 (U r.list)),(186,.v (.int .i64 (j:Nat)))],[(1000,.var 0 (.arr 1 (U (plusL s r j))))],c + 1⟩)
     () _ (Weak.re0 1000 (by simp [J4Q,U,St.list])) trivial ?_ ?_
    ·intro j _ c hj _
     have hw:IntKind.i64.wrap ((j:Int) + 1) = ((j + 1:Nat):Int):=Jf (by omega)
     have hj8:(j:Int) < 8:=by omega
     obtain ⟨g1,g2,g3⟩:=JYD s r j hj
     have e1:=(List.getElem?_eq_some_iff.1 g1).2
     have e3:=(List.getElem?_eq_some_iff.1 g3).2
     have hpl:=JS4 s r j (by omega)
     have hrl:r.list.length = 8:=rfl
     generalize s.list.getD j 0 = sj at *
     generalize r.list.getD j 0 = rj at *
     simp [hj8,hj,hpl,hrl,e1,e3]
     simp [JQQ,hw,U_set,g2]
     exact ⟨(),_,Weak.re0 1000 (by simp),trivial⟩
    ·intro _ c _
     simp [hp8]
     refine Jb (.inl rfl) ?_
     simp [St.list]
end
section
open Go
set_option maxHeartbeats 4000000
attribute [local irreducible] comp hb sha
def Bss (ps:List Bytes) : List AV := ps.map fun p => .sl 1 (B p)
@[simp] theorem J5N (ss:List Bytes) : (Bss ss).length = ss.length := by simp [Bss]
@[simp] theorem J5U (ss:List Bytes) : closeds (Bss ss) = true := by simp [Bss,closeds_all]
@[simp] theorem J4I (n:Nat) (a:List Bytes) (h:n < (Bss a).length) : (Bss a)[n] = .sl 1 (B (a[n]'(by simpa using h))) := by simp [Bss]
@[simp] theorem J87 (n:Nat) (a:List Bytes) : (Bss a)[n]? = (a[n]?).map fun p => .sl 1 (B p) := by simp [Bss]
theorem U_iv : U iv.list = [AV.v (.int .u32 1779033703),.v (.int .u32 3144134277),.v (.int .u32 1013904242),.v (.int .u32 2773480762),.v (.int .u32 1359893119),.v (.int .u32 2600822924),.v (.int .u32 528734635),.v (.int .u32 1541459225)] := rfl
def over (x p:Bytes) (r:Nat) : Bytes := x.take r ++ p ++ x.drop (r + p.length)
theorem JHm (x p:Bytes) (r:Nat) : splice (B x) r (B p) = B (over x p r) := by simp [splice,over]
theorem JU0 (x p:Bytes) (r:Nat) (h:r + p.length ≤ x.length) : (over x p r).length = x.length := by
 simp only [over,List.length_append,List.length_take,List.length_drop]
 omega
theorem J0e (x p d:Bytes) (r:Nat) (h:r + p.length ≤ x.length) (hd:x.take r = d) : (over x p r).take (r + p.length) = d ++ p := by
 have hl:d.length = r:=by rw [← hd,List.length_take]; omega
 rw [over,hd,List.take_append_of_le_length (by rw [List.length_append]; omega)]
 exact List.take_of_length_le (by rw [List.length_append]; omega)
def cat (ps:List Bytes) : Bytes := ps.flatten
@[simp] theorem J9l : cat [] = [] := rfl
theorem J1V (ps:List Bytes) (j:Nat) (h:j < ps.length) : cat (ps.take (j + 1)) = cat (ps.take j) ++ ps[j] := J0j ps j h
theorem JUZ (ps:List Bytes) (j:Nat) : (cat (ps.take j)).length ≤ (cat ps).length := JSR ps j
def i56 (i:Nat) : Int := ((56 + i:Nat):Int)
theorem JWv (i:Nat) : i56 i = 56 + (i:Int) := by simp [i56]
def r1 (i:Nat) : Int := ((i + 1:Nat):Int)
theorem r1_eq (i:Nat) : r1 i = (i:Int) + 1 := by simp [r1]
theorem JYl (x d:Bytes) (r:Nat) (hx:x.length = 64) (hd:d.length = r) (h:x.take r = d) (hr:r < 64) : over (x.set r 128) (zeros (63 - r)) (r + 1) = d ++ 128 :: zeros (63 - r) := by
 have h1:(x.set r 128).take (r + 1) = d ++ [128]:=by
  rw [Jki _ _ (by rw [List.length_set]; omega),List.take_set_of_le (Nat.le_refl _),h]
  simp
 rw [over,h1,List.drop_of_length_le (by simp; omega)]
 simp
theorem J0n (d:Bytes) (r k:Nat) (hd:d.length = r) (h:r < 64 - k) : (d ++ 128 :: zeros (63 - r)).drop (64 - k) = zeros k := by
 rw [List.drop_append,List.drop_of_length_le (by omega),hd,List.nil_append,show 64 - k - r = (63 - k - r) + 1 by omega,List.drop_succ_cons,JWP]
 congr 1
 omega
theorem J0p (d:Bytes) (r:Nat) (hd:d.length = r) (h:r < 56) : (d ++ 128 :: zeros (63 - r)).take 56 = d ++ 128 :: zeros (55 - r) := by
 rw [List.take_append,List.take_of_length_le (by omega),hd,show 56 - r = (55 - r) + 1 by omega,List.take_succ_cons,JYg]
 congr 3
 omega
theorem JWa (e:St) (i:Nat) (h:i < 32) (h2:i < e.bytes.length:=by simp; omega) : e.bytes[i] = (e.list.getD (i / 4) 0 >>> UInt32.ofNat (24 - 8 * (i % 4))).toUInt8 := by
 have z:∀ x:UInt32,x >>> UInt32.ofNat 0 = x:=fun x=>by simp
 match i,h,h2 with
 | 0,_,_=>rfl
 | 1,_,_=>rfl
 | 2,_,_=>rfl
 | 3,_,_=>show _ = (e.list.getD 0 0 >>> UInt32.ofNat 0).toUInt8; rw [z]; rfl
 | 4,_,_=>rfl
 | 5,_,_=>rfl
 | 6,_,_=>rfl
 | 7,_,_=>show _ = (e.list.getD 1 0 >>> UInt32.ofNat 0).toUInt8; rw [z]; rfl
 | 8,_,_=>rfl
 | 9,_,_=>rfl
 | 10,_,_=>rfl
 | 11,_,_=>show _ = (e.list.getD 2 0 >>> UInt32.ofNat 0).toUInt8; rw [z]; rfl
 | 12,_,_=>rfl
 | 13,_,_=>rfl
 | 14,_,_=>rfl
 | 15,_,_=>show _ = (e.list.getD 3 0 >>> UInt32.ofNat 0).toUInt8; rw [z]; rfl
 | 16,_,_=>rfl
 | 17,_,_=>rfl
 | 18,_,_=>rfl
 | 19,_,_=>show _ = (e.list.getD 4 0 >>> UInt32.ofNat 0).toUInt8; rw [z]; rfl
 | 20,_,_=>rfl
 | 21,_,_=>rfl
 | 22,_,_=>rfl
 | 23,_,_=>show _ = (e.list.getD 5 0 >>> UInt32.ofNat 0).toUInt8; rw [z]; rfl
 | 24,_,_=>rfl
 | 25,_,_=>rfl
 | 26,_,_=>rfl
 | 27,_,_=>show _ = (e.list.getD 6 0 >>> UInt32.ofNat 0).toUInt8; rw [z]; rfl
 | 28,_,_=>rfl
 | 29,_,_=>rfl
 | 30,_,_=>rfl
 | 31,_,_=>show _ = (e.list.getD 7 0 >>> UInt32.ofNat 0).toUInt8; rw [z]; rfl
 | n + 32,h,_=>exact absurd h (by omega)
theorem Jp3 (ps:List Bytes) (hn:ps.length ≤ 1000000) (hl:(cat ps).length ≤ 100000000) : Meets Tryz.prog Gt Jex [.sl 1 (Bss ps)] [] true (dv (sha (cat ps))) [] := by
 refine Jc mix J1G ⟨by simp,by simp,by simp⟩ ?_
 simp
 have h0:hb 0 [] = iv:=by unfold hb; rfl
 refine go_up ps.length (fun j (x:Bytes)=>x.length = 64 ∧ x.take (rem (cat (ps.take j))).length = rem (cat (ps.take j))) (fun j x c=>⟨[(2,.ptr 2 c 0),(3,.ptr 3 c 0),(4,.ptr 4 c 0),(5,.v (.int .i64 ((cat (ps.take j)).length:Nat))),(6,.v (.int .i64 ((rem (cat (ps.take j))).length:Nat))),(14,.sl 1 (Bss ps)),(15,.v (.int .i64 (ps.length:Nat))),(16,.v (.int .i64 (j:Nat)))],
  [(2,.var c (.arr 1 (B (zeros 32)))),(3,.var c (.arr 1 (U (hb ((cat (ps.take j)).length / 64) (cat (ps.take j))).list))),(4,.var c (.arr 1 (B x)))],c + 1⟩) (zeros 64) _ (Weak.re (by simp [h0,U_iv,rem])) (by simp [rem]) ?_ ?_
 ·intro j x c hj ⟨hx,hr⟩
  have hfs:=J1V ps j hj
  have hft:=JUZ ps (j + 1)
  rw [hfs,List.length_append] at hft
  have hw:IntKind.i64.wrap ((j:Int) + 1) = ((j + 1:Nat):Int):=Jf (by omega)
  generalize cat (ps.take j) = D at *
  obtain ⟨q,hq⟩:∃ q:Nat,q = D.length + ps[j].length:=⟨_,rfl⟩
  have hw2:IntKind.i64.wrap ((D.length:Nat) + (ps[j].length:Nat)) = (q:Int):=by rw [Jp (by omega)]; omega
  simp [hj,hw2]
  obtain ⟨p,hp⟩:∃ p,ps[j] = p:=⟨_,rfl⟩
  rw [hp] at hq hfs hft ⊢
  refine go_dec p.length (fun m (a:Bytes × Bytes × Bytes)=>match a with | (d,p',x)=>p'.length = m ∧ d ++ p' = D ++ p ∧ x.length = 64 ∧ x.take (rem d).length = rem d)
   (fun _ a c=>⟨[(2,.ptr 2 c 0),(3,.ptr 3 c 0),(4,.ptr 4 c 0),(5,.v (.int .i64 (q:Nat))),(6,.v (.int .i64 ((rem a.1).length:Nat))),(8,.sl 1 (B a.2.1)),(14,.sl 1 (Bss ps)),(15,.v (.int .i64 (ps.length:Nat))),(16,.v (.int .i64 (j:Nat)))],
    [(2,.var c (.arr 1 (B (zeros 32)))),(3,.var c (.arr 1 (U (hb (a.1.length / 64) a.1).list))),(4,.var c (.arr 1 (B a.2.2)))],c + 1⟩) (D,p,x) _ (Weak.re (by simp)) ⟨rfl,rfl,hx,hr⟩ ?_
  rintro m ⟨d,p',x'⟩ c' ⟨rfl,hd,hx',hr'⟩
  have hrl:(rem d).length < 64:=by rw [JjS]; omega
  by_cases hz:p' = []
  ·subst hz
   simp [hw]
   have hd':d = D ++ p:=by simpa using hd
   subst hd'
   exact ⟨x',_,Weak.re (by simp [hfs,hq]),⟨hx',by rw [hfs]; exact hr'⟩⟩
  ·have hpl:0 < p'.length:=List.length_pos_iff.2 hz
   obtain ⟨r,hre⟩:∃ r,(rem d).length = r:=⟨_,rfl⟩
   obtain ⟨k,hk⟩:∃ k,k = min p'.length (64 - r):=⟨_,rfl⟩
   obtain ⟨t,ht⟩:∃ t,t = r + k:=⟨_,rfl⟩
   have hw3:IntKind.i64.wrap ((r:Nat) + (k:Nat)) = (t:Int):=by rw [Jp (by omega)]; omega
   have hr64:(r:Int) ≤ 64:=by omega
   have hr64n:r ≤ 64:=by omega
   have hkl:(List.take k p').length = k:=by rw [List.length_take]; omega
   have hrk:r + k ≤ 64:=by omega
   have hkp:(k:Int) ≤ p'.length:=by omega
   have hkr:k ≤ 64 - r:=by omega
   have hkpn:k ≤ p'.length:=by omega
   have hfull:=JQ5 d (List.take k p')
   have hmore:=J3R d (List.take k p')
   rw [hkl,hre] at hfull hmore
   have hol:=JU0 x' (List.take k p') r (by omega)
   have hot:=J0e x' (List.take k p') (rem d) r (by omega) (by rw [← hre]; exact hr')
   rw [hkl,← ht] at hot
   obtain ⟨y,hy⟩:∃ y,over x' (List.take k p') r = y:=⟨_,rfl⟩
   rw [hy] at hol hot
   have hdd:(d ++ List.take k p') ++ List.drop k p' = D ++ p:=by rw [List.append_assoc,List.take_append_drop]; exact hd
   obtain ⟨e,he⟩:∃ e,d ++ List.take k p' = e:=⟨_,rfl⟩
   rw [he] at hfull hmore hdd
   have hdl:(List.drop k p').length < p'.length:=by rw [List.length_drop]; omega
   have hpd:List.take p'.length p' = p':=by simp
   have hyl:y.length = 64:=hol.trans hx'
   by_cases h64:t = 64
   ·have hyy:y = rem d ++ List.take k p':=by rw [← hot]; exact (List.take_of_length_le (by omega)).symm
    obtain ⟨f1,f2,f3⟩:=hfull (by omega)
    have hbk:=Jp8 (hb (d.length / 64) d) y hyl
    rw [← hyy] at f3
    rw [← f3] at hbk
    have hy64:List.take 64 y = y:=List.take_of_length_le (by omega)
    have h64':(t:Int) = 64:=by omega
    simp [hpl,hre,hx',hr64,hr64n,← hk,hkl,hrk,hkp,hkr,hkpn,hw3,JHm,h64',hpd,hy]
    refine Ja hbk ?_ ?_
    ·simp [stM,St.av,hyl,hy64]
    simp [stM,St.av]
    exact ⟨_,(e,List.drop k p',y),_,hdl,Weak.re (by simp [f2]),rfl,hdd,hyl,by rw [f2]; rfl⟩
   ·have h64':¬ (t:Int) = 64:=by omega
    obtain ⟨f1,f2,f3⟩:=hmore (by omega)
    have hrem:(rem e).length = t:=by rw [f2,List.length_append,hkl,hre,ht]
    simp [hpl,hre,hx',hr64,hr64n,← hk,hkl,hrk,hkp,hkr,hkpn,hw3,JHm,h64',hpd,hy]
    exact ⟨_,(e,List.drop k p',y),_,hdl,Weak.re (by simp [hrem,f3]),rfl,hdd,hyl,by rw [hrem,f2]; exact hot⟩
 ·intro x c ⟨hx,hr⟩
  simp only [List.take_length] at hr ⊢
  obtain ⟨r,hre⟩:∃ r,(rem (cat ps)).length = r:=⟨_,rfl⟩
  have hrm:=JjS (cat ps)
  have hr64:r < 64:=by rw [← hre,hrm]; omega
  have hri:(r:Int) < 64:=by omega
  have hw1:IntKind.i64.wrap ((r:Int) + 1) = r1 r:=by rw [r1_eq]; exact Jp (by omega)
  have b0:0 ≤ r1 r ∧ r1 r ≤ 64 ∧ (r1 r).toNat = r + 1 ∧ r + 1 ≤ 64:=by rw [r1_eq]; omega
  rw [hre] at hr
  have hz:over (x.set r 128) (zeros (63 - r)) (r + 1) = rem (cat ps) ++ 128 :: zeros (63 - r):=JYl x (rem (cat ps)) r hx hre hr hr64
  have hol:(over (x.set r 128) (zeros (63 - r)) (r + 1)).length = 64:=by rw [hz]; simp [hre]; omega
  obtain ⟨y0,hy0⟩:∃ y0,over (x.set r 128) (zeros (63 - r)) (r + 1) = y0:=⟨_,rfl⟩
  rw [hy0] at hz hol
  have h63:64 - (r + 1) = 63 - r:=by omega
  have hle:r + 1 + (63 - r) ≤ 64:=by omega
  by_cases h56:r < 56
  ·have h56i:¬ (56:Int) ≤ (r:Int):=by omega
   have hsha:=J0r (cat ps) (by omega)
   rw [← hrm,hre] at hsha
   have hy56:y0.drop 56 = zeros 8:=by rw [hz]; exact J0n _ r 8 hre (by omega)
   have hyt:rem (cat ps) ++ 128 :: (zeros (55 - r) ++ be8 (8 * (cat ps).length:Nat)) = y0.take 56 ++ be8 (8 * (cat ps).length:Nat):=by
    rw [hz,J0p _ r hre (by omega)]
    simp
   rw [hyt] at hsha
   simp [hre,hri,hr64,hx,hw1,b0,h63,hle,J0b 128 (by decide),show u8 128 = 128 by decide,B_set,JHm,hy0,h56i]
   generalize hb ((cat ps).length / 64) (cat ps) = h at *
   obtain ⟨y,hyy⟩:∃ y,y = y0:=⟨_,rfl⟩
   subst hyy
   have hyl:=hol
   refine go_up 8 (fun i (z:Bytes)=>z = y.take 56 ++ ((be8 (8 * (cat ps).length:Nat)).take i ++ zeros (8 - i))) (fun i z c=>⟨[(2,.ptr 2 c 0),(3,.ptr 3 c 0),(4,.ptr 4 c 0),(5,.v (.int .i64 ((cat ps).length:Nat))),(52,.v (.int .i64 (i:Nat)))],
    [(2,.var c (.arr 1 (B (zeros 32)))),(3,.var c (.arr 1 (U h.list))),(4,.var c (.arr 1 (B z)))],c + 1⟩) y _ (Weak.re (by simp )) (by simp; exact (List.take_append_drop 56 y).symm.trans (by rw [hy56])) ?_ ?_
   ·intro i z c hi hz
    have hw:IntKind.i64.wrap ((i:Int) + 1) = ((i + 1:Nat):Int):=Jf (by omega)
    have hi8:(i:Int) < 8:=by omega
    have a1:IntKind.i64.wrap (56 + (i:Int)) = i56 i:=by rw [JWv]; exact Jp (by omega)
    have a2:IntKind.i64.wrap (8 * (i:Int)) = 8 * (i:Int):=Jp (by omega)
    have a3:IntKind.i64.wrap (56 - 8 * (i:Int)) = ((56 - 8 * i:Nat):Int):=by rw [Jp (by omega)]; omega
    obtain ⟨s,hs⟩:∃ s:Nat,s = 56 - 8 * i:=⟨_,rfl⟩
    rw [← hs] at a3
    have a4:min s 64 = s:=by omega
    have a5:IntKind.u64.wrap (((cat ps).length:Nat):Int) = ((cat ps).length:Nat):=JJG (by omega)
    have a6:IntKind.u64.wrap ((((cat ps).length:Nat):Int) * 8) = ((8 * (cat ps).length:Nat):Int):=by rw [JJG (by omega)]; omega
    obtain ⟨N,hN⟩:∃ N:Nat,N = 8 * (cat ps).length:=⟨_,rfl⟩
    rw [← hN] at a6 hz ⊢
    have b1:i56 i < 64 ∧ 0 ≤ i56 i ∧ (i56 i).toNat = 56 + i:=by rw [JWv]; omega
    have hzl:z.length = 64:=by rw [hz]; simp; omega
    have hn64:56 + i < 64:=by omega
    have hset:z.set (56 + i) (u8 ((N:Int).fdiv (2 ^ s))) = y.take 56 ++ ((be8 (N:Nat)).take (i + 1) ++ zeros (8 - (i + 1))):=by
     have k1:=Jn6 (be8 (N:Nat)) 8 i (by simp; omega) (by simp)
     have k2:=JUU (N:Nat) i hi
     rw [List.getElem?_eq_getElem (by simp; omega)] at k2
     have k3:=Option.some.inj k2
     rw [k3] at k1
     rw [hz,List.set_append_right _ _ (by simp; omega),show 56 + i - (List.take 56 y).length = i by simp; omega,Int.fdiv_eq_ediv_of_nonneg _ (Int.le_of_lt (Int.pow_pos (by decide))),hs,k1]
    simp [hi8,a1,a2,a3,a4,a5,a6,b1,hzl,hn64,bv_u8,B_set,hw]
    exact ⟨_,_,Weak.re (by simp),hset⟩
   ·intro z c hz
    have hz':z = y.take 56 ++ be8 (8 * (cat ps).length:Nat):=by rw [hz,List.take_of_length_le (l:=be8 _) (by simp)]; simp [zeros]
    have hzl:z.length = 64:=by rw [hz']; simp; omega
    rw [← hz'] at hsha
    have hz64:List.take 64 z = z:=List.take_of_length_le (by omega)
    have hbk:=Jp8 h z hzl
    simp
    refine Ja hbk ?_ ?_
    ·simp [stM,St.av,hzl,hz64]
    have hlen:(comp h z).list.length = 8:=rfl
    generalize comp h z = e at *
    simp [stM,St.av]
    refine go_up 32 (fun i (o:Bytes)=>o = e.bytes.take i ++ zeros (32 - i)) (fun i o c=>⟨[(2,.ptr 2 c 0),(3,.ptr 3 c 0),(11,.ptr 11 c 0),(69,.v (.int .i64 (i:Nat)))],
     [(2,.var c (.arr 1 (B (zeros 32)))),(3,.var c (.arr 1 (U e.list))),(11,.var c (.arr 1 (B o)))],c + 1⟩) (zeros 32) _ (Weak.re (by simp)) (by simp) ?_ ?_
    ·intro i o c hi ho
     have hw:IntKind.i64.wrap ((i:Int) + 1) = ((i + 1:Nat):Int):=Jf (by omega)
     have hi32:(i:Int) < 32:=by omega
     have a1:IntKind.i64.wrap ((i:Int) / (4:Int)) = ((i / 4:Nat):Int):=by rw [Jp (by omega)]; omega
     have a2:(i:Int).tmod 4 = ((i % 4:Nat):Int):=rfl
     have a3:IntKind.i64.wrap (8 * ((i % 4:Nat):Int)) = 8 * ((i % 4:Nat):Int):=Jp (by omega)
     have a4:IntKind.i64.wrap (24 - 8 * ((i % 4:Nat):Int)) = ((24 - 8 * (i % 4):Nat):Int):=by rw [Jp (by omega)]; omega
     obtain ⟨k,hk⟩:∃ k:Nat,k = i / 4:=⟨_,rfl⟩
     obtain ⟨m,hm⟩:∃ m:Nat,m = i % 4:=⟨_,rfl⟩
     obtain ⟨s,hs⟩:∃ s:Nat,s = 24 - 8 * m:=⟨_,rfl⟩
     rw [← hk] at a1
     rw [← hm] at a2 a3 a4
     rw [← hs] at a4
     have b1:(k:Int) < 8 ∧ k < 8 ∧ min s 32 = s:=by omega
     have hol:o.length = 32:=by rw [ho]; simp; omega
     have g1:=JNp e.list k (by omega)
     have e1:=(List.getElem?_eq_some_iff.1 g1).2
     have hsh:=JNY (e.list.getD k 0) s (by omega)
     have hset:o.set i ((e.list.getD k 0 >>> UInt32.ofNat s).toUInt8) = e.bytes.take (i + 1) ++ zeros (32 - (i + 1)):=by
      have k1:=Jn6 e.bytes 32 i (by simp; omega) (by simp)
      rw [JWa e i hi,← hk,← hm,← hs] at k1
      rw [ho,k1]
     generalize e.list.getD k 0 = wk at *
     simp [hi32,a1,a2,a3,a4,b1,hlen,g1,e1,hsh,bv_u8,J0k,B_set,hol,hi,hw]
     exact ⟨_,_,Weak.re (by simp),hset⟩
    ·intro o c ho
     have ho':o = (sha (cat ps)).bs:=by rw [ho,hsha,List.take_of_length_le (by simp)]; simp [zeros]
     subst ho'
     simp
     refine Jb (.inr rfl) ?_
     simp
  ·have h56i:(56:Int) ≤ (r:Int):=by omega
   have hsha:=JZL (cat ps) (by omega)
   rw [← hrm,hre,← hz] at hsha
   have hbk:=Jp8 (hb ((cat ps).length / 64) (cat ps)) y0 hol
   have hy64:List.take 64 y0 = y0:=List.take_of_length_le (by omega)
   have hov:over y0 (zeros 64) 0 = zeros 64:=by simp [over,hol]
   simp [hre,hri,hr64,hx,hw1,b0,h63,hle,J0b 128 (by decide),show u8 128 = 128 by decide,B_set,JHm,hy0,h56i]
   refine Ja hbk ?_ ?_
   ·simp [stM,St.av,hol,hy64]
   generalize comp (hb ((cat ps).length / 64) (cat ps)) y0 = h at *
   simp [stM,St.av,hol,JHm,hov]
   obtain ⟨y,hyy⟩:∃ y,y = zeros 64:=⟨_,rfl⟩
   have hy56:y.drop 56 = zeros 8:=by rw [hyy]; simp
   have hyt:zeros 56 = y.take 56:=by rw [hyy]; simp
   rw [hyt] at hsha
   have hyl:y.length = 64:=by rw [hyy]; simp
   rw [← hyy]
   refine go_up 8 (fun i (z:Bytes)=>z = y.take 56 ++ ((be8 (8 * (cat ps).length:Nat)).take i ++ zeros (8 - i))) (fun i z c=>⟨[(2,.ptr 2 c 0),(3,.ptr 3 c 0),(4,.ptr 4 c 0),(5,.v (.int .i64 ((cat ps).length:Nat))),(52,.v (.int .i64 (i:Nat)))],
    [(2,.var c (.arr 1 (B (zeros 32)))),(3,.var c (.arr 1 (U h.list))),(4,.var c (.arr 1 (B z)))],c + 1⟩) y _ (Weak.re (by simp )) (by simp; exact (List.take_append_drop 56 y).symm.trans (by rw [hy56])) ?_ ?_
   ·intro i z c hi hz
    have hw:IntKind.i64.wrap ((i:Int) + 1) = ((i + 1:Nat):Int):=Jf (by omega)
    have hi8:(i:Int) < 8:=by omega
    have a1:IntKind.i64.wrap (56 + (i:Int)) = i56 i:=by rw [JWv]; exact Jp (by omega)
    have a2:IntKind.i64.wrap (8 * (i:Int)) = 8 * (i:Int):=Jp (by omega)
    have a3:IntKind.i64.wrap (56 - 8 * (i:Int)) = ((56 - 8 * i:Nat):Int):=by rw [Jp (by omega)]; omega
    obtain ⟨s,hs⟩:∃ s:Nat,s = 56 - 8 * i:=⟨_,rfl⟩
    rw [← hs] at a3
    have a4:min s 64 = s:=by omega
    have a5:IntKind.u64.wrap (((cat ps).length:Nat):Int) = ((cat ps).length:Nat):=JJG (by omega)
    have a6:IntKind.u64.wrap ((((cat ps).length:Nat):Int) * 8) = ((8 * (cat ps).length:Nat):Int):=by rw [JJG (by omega)]; omega
    obtain ⟨N,hN⟩:∃ N:Nat,N = 8 * (cat ps).length:=⟨_,rfl⟩
    rw [← hN] at a6 hz ⊢
    have b1:i56 i < 64 ∧ 0 ≤ i56 i ∧ (i56 i).toNat = 56 + i:=by rw [JWv]; omega
    have hzl:z.length = 64:=by rw [hz]; simp; omega
    have hn64:56 + i < 64:=by omega
    have hset:z.set (56 + i) (u8 ((N:Int).fdiv (2 ^ s))) = y.take 56 ++ ((be8 (N:Nat)).take (i + 1) ++ zeros (8 - (i + 1))):=by
     have k1:=Jn6 (be8 (N:Nat)) 8 i (by simp; omega) (by simp)
     have k2:=JUU (N:Nat) i hi
     rw [List.getElem?_eq_getElem (by simp; omega)] at k2
     have k3:=Option.some.inj k2
     rw [k3] at k1
     rw [hz,List.set_append_right _ _ (by simp; omega),show 56 + i - (List.take 56 y).length = i by simp; omega,Int.fdiv_eq_ediv_of_nonneg _ (Int.le_of_lt (Int.pow_pos (by decide))),hs,k1]
    simp [hi8,a1,a2,a3,a4,a5,a6,b1,hzl,hn64,bv_u8,B_set,hw]
    exact ⟨_,_,Weak.re (by simp),hset⟩
   ·intro z c hz
    have hz':z = y.take 56 ++ be8 (8 * (cat ps).length:Nat):=by rw [hz,List.take_of_length_le (l:=be8 _) (by simp)]; simp [zeros]
    have hzl:z.length = 64:=by rw [hz']; simp; omega
    rw [← hz'] at hsha
    have hz64:List.take 64 z = z:=List.take_of_length_le (by omega)
    have hbk:=Jp8 h z hzl
    simp
    refine Ja hbk ?_ ?_
    ·simp [stM,St.av,hzl,hz64]
    have hlen:(comp h z).list.length = 8:=rfl
    generalize comp h z = e at *
    simp [stM,St.av]
    refine go_up 32 (fun i (o:Bytes)=>o = e.bytes.take i ++ zeros (32 - i)) (fun i o c=>⟨[(2,.ptr 2 c 0),(3,.ptr 3 c 0),(11,.ptr 11 c 0),(69,.v (.int .i64 (i:Nat)))],
     [(2,.var c (.arr 1 (B (zeros 32)))),(3,.var c (.arr 1 (U e.list))),(11,.var c (.arr 1 (B o)))],c + 1⟩) (zeros 32) _ (Weak.re (by simp)) (by simp) ?_ ?_
    ·intro i o c hi ho
     have hw:IntKind.i64.wrap ((i:Int) + 1) = ((i + 1:Nat):Int):=Jf (by omega)
     have hi32:(i:Int) < 32:=by omega
     have a1:IntKind.i64.wrap ((i:Int) / (4:Int)) = ((i / 4:Nat):Int):=by rw [Jp (by omega)]; omega
     have a2:(i:Int).tmod 4 = ((i % 4:Nat):Int):=rfl
     have a3:IntKind.i64.wrap (8 * ((i % 4:Nat):Int)) = 8 * ((i % 4:Nat):Int):=Jp (by omega)
     have a4:IntKind.i64.wrap (24 - 8 * ((i % 4:Nat):Int)) = ((24 - 8 * (i % 4):Nat):Int):=by rw [Jp (by omega)]; omega
     obtain ⟨k,hk⟩:∃ k:Nat,k = i / 4:=⟨_,rfl⟩
     obtain ⟨m,hm⟩:∃ m:Nat,m = i % 4:=⟨_,rfl⟩
     obtain ⟨s,hs⟩:∃ s:Nat,s = 24 - 8 * m:=⟨_,rfl⟩
     rw [← hk] at a1
     rw [← hm] at a2 a3 a4
     rw [← hs] at a4
     have b1:(k:Int) < 8 ∧ k < 8 ∧ min s 32 = s:=by omega
     have hol:o.length = 32:=by rw [ho]; simp; omega
     have g1:=JNp e.list k (by omega)
     have e1:=(List.getElem?_eq_some_iff.1 g1).2
     have hsh:=JNY (e.list.getD k 0) s (by omega)
     have hset:o.set i ((e.list.getD k 0 >>> UInt32.ofNat s).toUInt8) = e.bytes.take (i + 1) ++ zeros (32 - (i + 1)):=by
      have k1:=Jn6 e.bytes 32 i (by simp; omega) (by simp)
      rw [JWa e i hi,← hk,← hm,← hs] at k1
      rw [ho,k1]
     generalize e.list.getD k 0 = wk at *
     simp [hi32,a1,a2,a3,a4,b1,hlen,g1,e1,hsh,bv_u8,J0k,B_set,hol,hi,hw]
     exact ⟨_,_,Weak.re (by simp),hset⟩
    ·intro o c ho
     have ho':o = (sha (cat ps)).bs:=by rw [ho,hsha,List.take_of_length_le (by simp)]; simp [zeros]
     subst ho'
     simp
     refine Jb (.inr rfl) ?_
     simp
end
section
open Go
set_option maxHeartbeats 4000000
attribute [local irreducible] comp hb sha
theorem B_one (m:UInt8) : B [m] = [bv m] := rfl
theorem JW3 (m:UInt8) (a b:Dg) : Meets Tryz.prog Gt Jj5 [bv m,dv a,dv b] [] true (dv (sha (m :: (a.bs ++ b.bs)))) [] := by
 refine Jc mix JXE ⟨by simp,by simp,by simp⟩ ?_
 have h:=Jp3 [[m],a.bs,b.bs] (by simp) (by simp [cat])
 have e:cat [[m],a.bs,b.bs] = m :: (a.bs ++ b.bs):=by simp [cat]
 have ta:List.take 32 a.bs = a.bs:=List.take_of_length_le (by simp)
 have tb:List.take 32 b.bs = b.bs:=List.take_of_length_le (by simp)
 rw [e] at h
 simp [dv]
 refine Ja h ?_ ?_
 ·simp [Bss,B_one,ta,tb]
 simp [dv]
 refine Jb (.inr rfl) ?_
 simp [dv]
end
section
open Go
set_option maxHeartbeats 4000000
attribute [local irreducible] comp hb sha
def bBlock : Bytes := [98,108,111,99,107]
def Blk.dg (q:Blk) : Dg := sha (bBlock ++ q.bytes)
theorem J35 : B bBlock = [AV.v (.int .u8 98),.v (.int .u8 108),.v (.int .u8 111),.v (.int .u8 99),.v (.int .u8 107)] := (rfl)
theorem JQp (q:Blk) (h:q.bytes.length ≤ 50000000) (hn:q.qs.length ≤ 1000000) : Meets Tryz.prog Gt Jkd [q.avS] [] true (dv q.dg) [] := by
 refine Jc mix JPm ⟨by simp,by simp,by simp⟩ ?_
 have hrl:bBlock.length = 5:=rfl
 have e:cat [bBlock,q.bytes] = bBlock ++ q.bytes:=by simp [cat]
 have m1:=Jho (G:=Gt) [] q (by simp; omega) hn
 rw [List.nil_append] at m1
 have m2:=JbS (G:=Gt) q.bytes (by omega)
 have m3:=Jp3 [bBlock,q.bytes] (by simp) (by rw [e,List.length_append,hrl]; omega)
 rw [e] at m3
 unfold Blk.dg
 generalize sha (bBlock ++ q.bytes) = d at *
 generalize q.bytes = x at *
 have hx:List.take x.length x = x:=List.take_of_length_le (by omega)
 have hB:=J35
 generalize bBlock = r at *
 have hr:List.take 5 r = r:=List.take_of_length_le (by omega)
 simp [Blk.avS,dv]
 refine Ja m1 ?_ ?_
 ·simp [wrM,Blk.avS,dv]
 simp [wrM,Blk.avS,dv]
 refine Ja m2 ?_ ?_
 ·simp [wrM]
 simp [wrM]
 refine Ja m3 ?_ ?_
 ·simp [Bss,hB,hx,hr]
 simp
 refine Jb (.inr rfl) ?_
 simp
end
section
open Go
set_option maxHeartbeats 4000000
variable {G:Nat → Option AV}
attribute [local irreducible] sha
def Mem.good (m:Mem) : Bool := decide (1 ≤ m.id) && decide (m.id ≤ 63) && decide (0 ≤ m.height) && decide (m.height ≤ 6)
def memOk (ms:List Mem) (j:Nat) : Bool := (ms[j]!).good && (decide (j = 0) || decide ((ms[j-1]!).id < (ms[j]!).id))
def Conf.good (c:Conf) : Bool := decide (0 ≤ c.epoch) && decide (c.epoch ≤ 1073741824) && decide (0 < c.ms.length) && decide (c.ms.length ≤ 10) && (List.range c.ms.length).all (memOk c.ms)
def faults (n:Nat) : Nat := (n - 1) / 3
def quorum (n:Nat) : Nat := (n + faults n) / 2 + 1
theorem JTk (m:Mem) : Meets Tryz.prog G Jk0 [m.av] [] true (.v (.bool m.good)) [] := by
 refine Jc mix JPw ⟨by simp,by simp,by simp⟩ ?_
 unfold Mem.good
 by_cases c1:1 ≤ m.id
 case neg =>
  simp [Mem.av,dv,c1]
  refine Jb (.inr rfl) ?_
  simp
 by_cases c2:m.id ≤ 63
 case neg =>
  simp [Mem.av,dv,c1,c2]
  refine Jb (.inr rfl) ?_
  simp
 by_cases c3:0 ≤ m.height
 case neg =>
  simp [Mem.av,dv,c1,c2,c3]
  refine Jb (.inr rfl) ?_
  simp
 by_cases c4:m.height ≤ 6
 case neg =>
  simp [Mem.av,dv,c1,c2,c3,c4]
  refine Jb (.inr rfl) ?_
  simp
 simp [Mem.av,dv,c1,c2,c3,c4]
 refine Jb (.inr rfl) ?_
 simp
theorem JUs (v:Vote) : Meets Tryz.prog G JzI [v.av] [] true (.v (.bool v.good)) [] := by
 refine Jc mix JUT ⟨by simp,by simp,by simp⟩ ?_
 unfold Vote.good
 by_cases c1:1 ≤ v.kind
 case neg =>
  simp [Vote.av,dv,c1]
  refine Jb (.inr rfl) ?_
  simp
 by_cases c2:v.kind ≤ 2
 case neg =>
  simp [Vote.av,dv,c1,c2]
  refine Jb (.inr rfl) ?_
  simp
 by_cases c3:0 ≤ v.epoch
 case neg =>
  simp [Vote.av,dv,c1,c2,c3]
  refine Jb (.inr rfl) ?_
  simp
 by_cases c4:v.epoch ≤ 1073741824
 case neg =>
  simp [Vote.av,dv,c1,c2,c3,c4]
  refine Jb (.inr rfl) ?_
  simp
 by_cases c5:1 ≤ v.height
 case neg =>
  simp [Vote.av,dv,c1,c2,c3,c4,c5]
  refine Jb (.inr rfl) ?_
  simp
 by_cases c6:v.height ≤ 1024
 case neg =>
  simp [Vote.av,dv,c1,c2,c3,c4,c5,c6]
  refine Jb (.inr rfl) ?_
  simp
 by_cases c7:0 ≤ v.round
 case neg =>
  simp [Vote.av,dv,c1,c2,c3,c4,c5,c6,c7]
  refine Jb (.inr rfl) ?_
  simp
 by_cases c8:v.round ≤ 1024
 case neg =>
  simp [Vote.av,dv,c1,c2,c3,c4,c5,c6,c7,c8]
  refine Jb (.inr rfl) ?_
  simp
 by_cases c9:1 ≤ v.src
 case neg =>
  simp [Vote.av,dv,c1,c2,c3,c4,c5,c6,c7,c8,c9]
  refine Jb (.inr rfl) ?_
  simp
 by_cases c10:v.src ≤ 63
 case neg =>
  simp [Vote.av,dv,c1,c2,c3,c4,c5,c6,c7,c8,c9,c10]
  refine Jb (.inr rfl) ?_
  simp
 simp [Vote.av,dv,c1,c2,c3,c4,c5,c6,c7,c8,c9,c10]
 refine Jb (.inr rfl) ?_
 simp
end
end Go.Proofs.YtlajjoekbcjfnaaGreatDoor.WL
