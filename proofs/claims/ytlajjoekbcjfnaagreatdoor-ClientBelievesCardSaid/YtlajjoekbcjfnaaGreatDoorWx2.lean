import Derived.Test.YtlajjoekbcjfnaaGreatDoorWx1
import Derived.Laws.IdiomRangeMap
import Derived.Maps.RangeRun
namespace Go.Proofs.YtlajjoekbcjfnaaGreatDoor.WL
set_option linter.all false
section
open Go
section
variable {P:Program} {w0:World} {Ws I0:Nat → Prop} {C:Ctx}
structure Mk0 (P:Program) (sz:Nat) (tx e:TypeId) (x:Value) (n:Nat) (news:List Value) : Prop where
 kind:∃ k,P.underlying tx = some (.int k)
 x:∃ k i,x = .int k i ∧ IntKind.i64.wrap i = (n:Int)
 bytes:∃ b,(P.info? e).map (·.bytes) = some b ∧ n * b ≤ 140737488355328
 zero:∃ z,tzero P e = some z ∧ z.length = sz ∧ news = (Builtin.zeroCells z.toArray n).toList ∧ 0 < sz
 newsLen:news.length = n * sz
 one:∀ u ∈ news,u.oneCell' = true
def App (P:Program) (sz:Nat) (tx e:TypeId) (x:Value) (n:Nat) (news:List Value) (w:World) : Prop := Src P sz tx x n news w ∨ Mk0 P sz tx e x n news
theorem JyX (P:Program) (k:IntKind) (i:Int) (w:World) : (asInt (.int k i)).run P w = .ok i w := rfl
theorem JNB {t:TypeId} {cs:List Value} (h:tzero P t = some cs) : ∃ i z,P.info? t = some i ∧ i.zero = some z ∧ z.cells.toList = cs := by
 unfold tzero at h
 simp only [Option.bind_eq_some_iff,Option.map_eq_some_iff] at h
 obtain ⟨i,hi,z,hz,e⟩:=h
 exact ⟨i,z,hi,hz,e⟩
theorem JNb {w:World} {t tx ty e:TypeId} {sz b sLen sCap n:Nat} {x:Value} {news:List Value} {cur:Array Value} {T:TypeId} (ht:P.underlying t = some (.slice e)) (hsz:tsz P e = some sz) (hs:App P sz tx e x n news w)
 (hg:w.heap[b]? = some (.cells cur T (0,0))) (hfit:sLen * sz + news.length ≤ cur.size) (hroom:sLen + n ≤ sCap) :
 (Builtin.append_ #[t,tx] ty #[.slice (some ⟨b,0,none⟩) sLen sCap,x]).run P w = .ok (.slice (some ⟨b,0,none⟩) (sLen + n) sCap) (w.setRow b (cur.toList.take (sLen * sz) ++ news ++ cur.toList.drop (sLen * sz + news.length)).toArray):=by
 rcases hs with hs | hs
 ·have hst:=run_storeCells_at P b (sLen * sz) T news 0 cur w hg (by simpa using hfit) hs.one
  simp only [Nat.add_zero] at hst
  rcases hs.kind with ⟨e',hk⟩ | hk <;> simp [Builtin.append_,run_underlying ht,run_underlying hk,JP hsz,hs.len,hroom,hs.cells,JbM,hst]
 ·have hst:=run_storeCells_at P b (sLen * sz) T news 0 cur w hg (by simpa using hfit) hs.one
  simp only [Nat.add_zero] at hst
  obtain ⟨k,hk⟩:=hs.kind
  obtain ⟨k',i,rfl,hwr⟩:=hs.x
  obtain ⟨bb,hb,hb2⟩:=hs.bytes
  obtain ⟨zc,hz,hzl,hnews,h0⟩:=hs.zero
  obtain ⟨inf,z,hi,hiz,hzc⟩:=JNB hz
  have hib:inf.bytes = bb:=by simpa [hi] using hb
  have hlt:¬ ((n:Int) < 0):=by omega
  have h48:¬ (281474976710656 < (n:Int) * (inf.bytes:Int)):=by
   rw [hib]
   have:((n * bb:Nat):Int) = (n:Int) * (bb:Int):=Int.natCast_mul n bb
   omega
  have hz2:z.cells = zc.toArray:=by rw [← hzc]
  by_cases hn:n = 0
  ·subst hn
   have:news = []:=List.eq_nil_of_length_eq_zero (by simpa using hs.newsLen)
   subst this
   have hr2:sLen ≤ sCap:=by omega
   have hwr0:IntKind.i64.wrap i = 0:=by simpa using hwr
   simp [Builtin.append_,run_underlying ht,run_underlying hk,JP hsz,typeInfo,hi,JyX,hwr0,hr2,storeCells]
   simpa [storeCells] using hst
  ·have hne:¬ (n = 0 ∨ sz = 0):=by omega
   have hne2:¬ (n * sz = 0):=by rw [Nat.mul_eq_zero]; exact hne
   simp [Builtin.append_,run_underlying ht,run_underlying hk,JP hsz,typeInfo,zeroValue,hi,hiz,JyX,hwr,h48,hroom,hlt,hne2,hz2,JbM]
   rw [← hnews]
   simp [hst,hlt,hne2]
theorem JN5 {w:World} {t tx ty e:TypeId} {sz:Nat} {x:Value} {ao:Option Addr} (ht:P.underlying t = some (.slice e)) (hsz:tsz P e = some sz) (hs:App P sz tx e x 0 [] w) :
 (Builtin.append_ #[t,tx] ty #[.slice ao 0 0,x]).run P w = .ok (.slice ao 0 0) w:=by
 rcases hs with hs | hs
 ·rcases hs.kind with ⟨e',hk⟩ | hk <;> cases ao <;> simp [Builtin.append_,run_underlying ht,run_underlying hk,JP hsz,hs.len,hs.cells,storeCells]
 ·obtain ⟨k,hk⟩:=hs.kind
  obtain ⟨k',i,rfl,hwr⟩:=hs.x
  obtain ⟨zc,hz,hzl,hnews,h0⟩:=hs.zero
  obtain ⟨inf,z,hi,hiz,hzc⟩:=JNB hz
  cases ao <;> simp [Builtin.append_,run_underlying ht,run_underlying hk,JP hsz,typeInfo,hi,JyX,hwr,storeCells]
theorem Jlu {w:World} {t tx ty e:TypeId} {i:TypeInfo} {z:Value} (ht:P.underlying t = some (.slice e)) (hi:P.info? e = some i) (hz:i.zero = some z) (base:Option Addr) (sLen sCap:Nat) (olds:List Value)
 (hold:(Builtin.firstCells i.size sLen (.slice base sLen sCap)).run P w.drew = .ok olds.toArray w.drew) (x:Value) (n:Nat) (news:List Value) (hs:Mk0 P i.size tx e x n news)
 (hg:sCap < sLen + n) (h63:((sLen + n:Nat):Int) ≤ 9223372036854775807) (hfit:Builtin.nextslicecap (sLen + n) sCap * i.bytes ≤ 281474976710656) :
 (Builtin.append_ #[t,tx] ty #[.slice base sLen sCap,x]).run P w =
  .ok (.slice (some ⟨w.heap.size,0,none⟩) (sLen + n) (grownCap w (sLen + n) sCap e))
   (w.drew.alloc (.cells ((olds ++ news).toArray ++ Builtin.zeroCells z.cells (grownCap w (sLen + n) sCap e - (sLen + n))) e)):=by
 have hn:¬ (sLen + n ≤ sCap):=by omega
 have h63':¬ (9223372036854775807 < ((sLen:Int) + (n:Int))):=by omega
 have h48':¬ (281474976710656 < Builtin.nextslicecap (sLen + n) sCap * i.bytes):=by omega
 obtain ⟨k,hk⟩:=hs.kind
 obtain ⟨k',j,rfl,hwr⟩:=hs.x
 obtain ⟨bb,hb,hb2⟩:=hs.bytes
 obtain ⟨zc,hzc,hzl,hnews,h0⟩:=hs.zero
 obtain ⟨inf,z',hi',hiz',hzc'⟩:=JNB hzc
 rw [hi] at hi'
 obtain rfl:=Option.some.inj hi'
 rw [hz] at hiz'
 obtain rfl:=Option.some.inj hiz'
 have hib:i.bytes = bb:=by simpa [hi] using hb
 have h48:¬ (281474976710656 < (n:Int) * (i.bytes:Int)):=by
  rw [hib]
  have:((n * bb:Nat):Int) = (n:Int) * (bb:Int):=Int.natCast_mul n bb
  omega
 have hz2:z.cells = zc.toArray:=by rw [← hzc']
 by_cases hn0:n = 0
 ·subst hn0
  have:news = []:=List.eq_nil_of_length_eq_zero (by simpa using hs.newsLen)
  subst this
  have hr2:¬ (sLen ≤ sCap):=by omega
  have hwr0:IntKind.i64.wrap j = 0:=by simpa using hwr
  have h63'':¬ (9223372036854775807 < (sLen:Int)):=by omega
  have h48'':¬ (281474976710656 < Builtin.nextslicecap sLen sCap * i.bytes):=by simpa using h48'
  simp [Builtin.append_,run_underlying ht,run_underlying hk,sizeOf,typeInfo,zeroValue,hi,hz,JyX,hwr0,hr2,h63'',h48'',Question.forced,hold,newRow,grownCap]
 ·have hlt:¬ ((n:Int) < 0):=by omega
  have hne2:¬ (n * i.size = 0):=by rw [Nat.mul_eq_zero]; omega
  simp [Builtin.append_,run_underlying ht,run_underlying hk,sizeOf,typeInfo,zeroValue,hi,hz,JyX,hwr,h48,hn,h63',h48',Question.forced,hold,newRow,grownCap,hlt,hne2]
  rw [hz2,hnews]
  congr 2
  apply Array.ext'
  simp [List.append_assoc]
theorem Jzp {w w':World} {row:Option Nat} (h:w.drew.grownBy w' row) : w.grownBy w' row := ⟨h.os,h.tape,h.output,h.size,h.block⟩
structure ElemOk (P:Program) (t e:TypeId) (sz bytes:Nat) : Prop where
 ht:P.underlying t = some (.slice e)
 hs:tsz P e = some sz
 h0:0 < sz
 hb:(P.info? e).map (·.bytes) = some bytes
 hz:∃ z,(P.info? e).bind (·.zero) = some z ∧ z.cells.size = sz
def Dest (C:Ctx) (l sz:Nat) (xs:List AV) (ao:Option Addr) (n cap:Nat) : Prop :=
 (xs = [] ∧ n = 0 ∧ cap = 0) ∨ ∃ c b cur T,C.m l = some c ∧ C.blk l = some b ∧ ao = some ⟨b,0,none⟩ ∧ C.w.heap[b]? = some (.cells cur T (0,0)) ∧ cur.size = cap * sz ∧ cap ≤ maxLen ∧
  n = xs.length ∧ xs.length ≤ cap ∧ Es C sz xs (cur.toList.take (n * sz))
theorem JK2 (h:WR w0 Ws I0 C) {l g sz bytes n cap:Nat} {t tx ty e:TypeId} {ao:Option Addr} {x:Value} {xs ys:List AV} {news:List Value} (hnew:¬ C.used g) (he:ElemOk P t e sz bytes)
 (hd:Dest C l sz xs ao n cap) (hs:App P sz tx e x ys.length news C.w) (hy:Es C sz ys news) (hm:n + ys.length ≤ maxLen) (hby:(n + ys.length) * bytes ≤ 140737488355328) :
 ∃ y w' B,(Builtin.append_ #[t,tx] ty #[.slice ao n cap,x]).run P C.w = .ok y w' ∧ C.Le (newAt C w' l g B (.rows g sz (xs ++ ys))) ∧ WR w0 Ws I0 (newAt C w' l g B (.rows g sz (xs ++ ys))) ∧
  SV (newAt C w' l g B (.rows g sz (xs ++ ys))) (.row l sz g 0 (n + ys.length)) y:=by
 obtain ⟨i,hi⟩:∃ i,P.info? e = some i:=by
  have:=he.hs; unfold tsz at this
  cases hq:P.info? e with
  | none=>simp [hq] at this
  | some i=>exact ⟨i,rfl⟩
 have hisz:i.size = sz:=by have:=he.hs; simpa [tsz,hi] using this
 have hiby:i.bytes = bytes:=by have:=he.hb; simpa [hi] using this
 obtain ⟨z,hz,hzs⟩:=he.hz
 have hiz:i.zero = some z:=by simpa [hi] using hz
 have hnx:n = xs.length:=by rcases hd with ⟨rfl,rfl,rfl⟩ | ⟨_,_,_,_,_,_,_,_,_,_,h,_⟩ <;> first | rfl | exact h
 have hylen:=Jw hy
 by_cases hroom:n + ys.length ≤ cap
 ·rcases hd with ⟨rfl,rfl,rfl⟩ | ⟨c,b,cur,T,h1,h2,rfl,h4,h5,h6,h7,h8,h9⟩
  ·
   have hy0:ys = []:=List.eq_nil_of_length_eq_zero (by omega)
   subst hy0
   have hn0:news = []:=List.eq_nil_of_length_eq_zero (by simpa using hylen)
   subst hn0
   have hr:=h.regen (l:=l) (g:=g) (c':=.rows g sz ([] ++ [])) (w':=C.w) (row:=none) (B:=none) (World.grownBy.refl C.w none) rfl hnew (.inl rfl) (.inl rfl)
   refine ⟨_,C.w,none,JN5 he.ht he.hs hs,hr.1,hr.2 (.inl ⟨by simp,rfl⟩),?_⟩
   show V _ (.row l sz g 0 _) [_]
   simp only [V]
   refine ⟨ao,0,rfl,by simp,by simp [maxLen],fun h=>by simp at h,.inr rfl,fun xs' _=>?_⟩
   unfold RowVal
   simp only [newAt,JU]
   exact ⟨trivial,rfl,ao,rfl⟩
  ·
   have hfit:n * sz + news.length ≤ cur.size:=by
    rw [hylen,h5,← Nat.add_mul]; exact Nat.mul_le_mul_right _ hroom
   have hrun:=JNb (P:=P) (ty:=ty) he.ht he.hs hs h4 hfit hroom
   have hr:=h.regen (l:=l) (g:=g) (c':=.rows g sz (xs ++ ys)) (row:=some b) (B:=some b) (Jgo C.w b (cur.toList.take (n * sz) ++ news ++ cur.toList.drop (n * sz + news.length)).toArray) rfl hnew
    (.inr ⟨c,h1,h2.symm⟩) (.inr (.inl ⟨c,h1,h2.symm⟩))
   have hheap:=setRow_heap C.w b cur (cur.toList.take (n * sz) ++ news ++ cur.toList.drop (n * sz + news.length)).toArray T _ h4
   have hsize:(cur.toList.take (n * sz) ++ news ++ cur.toList.drop (n * sz + news.length)).toArray.size = cap * sz:=by
    simp; omega
   refine ⟨_,_,some b,hrun,hr.1,hr.2 (.inr ⟨b,_,T,cap,by simp,hheap,hsize,h6,?_,?_⟩),?_⟩
   ·rw [List.length_append]; omega
   ·have e1:((cur.toList.take (n * sz) ++ news ++ cur.toList.drop (n * sz + news.length)).toArray.toList).take ((xs ++ ys).length * sz) = cur.toList.take (n * sz) ++ news:=by
     have e2:(xs ++ ys).length * sz = (cur.toList.take (n * sz) ++ news).length:=by
      rw [List.length_append,List.length_append,hylen,List.length_take,Nat.add_mul,← h7,Nat.min_eq_left (by simp; omega)]
     rw [e2]
     simp only [List.take_left]
    rw [e1]
    exact Jj8 hr.1 _ _ _ (JgP h9 hy)
   ·show V _ (.row l sz g 0 _) [_]
    simp only [V]
    refine ⟨_,_,rfl,hroom,h6,fun _=>rfl,.inr rfl,fun xs' hc=>?_⟩
    simp only [newAt,JU,Option.some.injEq,Loc.rows.injEq,true_and] at hc
    subst hc
    unfold RowVal
    simp only [newAt,JU]
    exact ⟨_,T,cap,_,hheap,hsize,h6,by omega,rfl,fun _=>by simp⟩
 ·
  obtain ⟨olds,ho1,ho2⟩:∃ olds,(Builtin.firstCells i.size n (.slice ao n cap)).run P C.w.drew = .ok olds.toArray C.w.drew ∧ Es C sz xs olds:=by
   rcases hd with ⟨rfl,rfl,rfl⟩ | ⟨c,b,cur,T,h1,h2,rfl,h4,h5,h6,h7,h8,h9⟩
   ·refine ⟨[],?_,J2I⟩
    cases ao with
    | none=>simp [Builtin.firstCells]
    | some a=>simp [Builtin.firstCells,loadCells,loadCellsFrom]
   ·refine ⟨cur.toList.take (n * sz),?_,h9⟩
    refine run_firstCells_some (P:=P) C.w.drew i.size n ⟨b,0,none⟩ n cap _ (by rw [hisz,List.length_take]; have:=Nat.mul_le_mul_right sz h8; rw [Array.length_toList,h5,Nat.min_eq_left (by rw [h7]; exact this)]) (fun j v hj=>?_)
    rw [JbM,World.cell?_drew]
    have:=Jby (o:=0) (n:=n * sz) h4 j v (by rw [List.drop_zero]; exact hj)
    simpa using this
  have hg:cap < n + ys.length:=by omega
  have hfit:=growslice_fits hg (by rw [← hiby] at hby; exact hby)
  have hrun:(Builtin.append_ #[t,tx] ty #[.slice ao n cap,x]).run P C.w = .ok (.slice (some ⟨C.w.heap.size,0,none⟩) (n + ys.length) (grownCap C.w (n + ys.length) cap e))
   (C.w.drew.alloc (.cells ((olds ++ news).toArray ++ Builtin.zeroCells z.cells (grownCap C.w (n + ys.length) cap e - (n + ys.length))) e)):=by
   rcases hs with hs | hs
   ·exact run_append_grow_src (P:=P) C.w t tx ty e i z he.ht hi hiz ao n cap olds ho1 x ys.length news (by rw [hisz]; exact hs) hg (by unfold maxLen at hm; omega) hfit
   ·exact Jlu (P:=P) he.ht hi hiz ao n cap olds ho1 x ys.length news (by rw [hisz]; exact hs) hg (by unfold maxLen at hm; omega) hfit
  have hcap:=grownCap_ge C.w (n + ys.length) cap e
  have hcap2:=grownCap_le_maxLen C.w (n + ys.length) cap e hm
  have hr:=h.regen (l:=l) (g:=g) (c':=.rows g sz (xs ++ ys)) (w':=C.w.drew.alloc (.cells ((olds ++ news).toArray ++ Builtin.zeroCells z.cells (grownCap C.w (n + ys.length) cap e - (n + ys.length))) e)) (row:=none) (B:=some C.w.heap.size)
   (Jzp (World.grownBy_alloc C.w.drew _ none)) rfl hnew (.inl rfl) (.inr (.inr ⟨_,rfl,Nat.le_refl _,by simp⟩))
  have hheap:(C.w.drew.alloc (.cells ((olds ++ news).toArray ++ Builtin.zeroCells z.cells (grownCap C.w (n + ys.length) cap e - (n + ys.length))) e)).heap[C.w.heap.size]? = some (.cells ((olds ++ news).toArray ++ Builtin.zeroCells z.cells (grownCap C.w (n + ys.length) cap e - (n + ys.length))) e (0,0)):=heap_alloc_new C.w.drew _
  have holen:=Jw ho2
  have hE:=JgP ho2 hy
  have hElen:=Jw hE
  have hsize:((olds ++ news).toArray ++ Builtin.zeroCells z.cells (grownCap C.w (n + ys.length) cap e - (n + ys.length))).size = grownCap C.w (n + ys.length) cap e * sz:=by
   rw [Array.size_append,List.size_toArray,size_zeroCells,hzs,hElen,List.length_append,← hnx,← Nat.add_mul]
   congr 1
   omega
  refine ⟨_,_,some C.w.heap.size,hrun,hr.1,hr.2 (.inr ⟨C.w.heap.size,_,e,_,by simp,hheap,hsize,hcap2,?_,?_⟩),?_⟩
  ·rw [List.length_append]; omega
  ·rw [Array.toList_append,List.take_append_of_le_length (by rw [← hElen]; simp),← hElen]
   simp only [List.take_length]
   exact Jj8 hr.1 _ _ _ hE
  ·show V _ (.row l sz g 0 _) [_]
   simp only [V]
   refine ⟨_,_,rfl,hcap,hcap2,fun _=>rfl,.inr rfl,fun xs' hc=>?_⟩
   simp only [newAt,JU,Option.some.injEq,Loc.rows.injEq,true_and] at hc
   subst hc
   unfold RowVal
   simp only [newAt,JU]
   exact ⟨_,e,_,_,hheap,hsize,hcap2,by omega,rfl,fun _=>by simp⟩
theorem JUS (h:WR w0 Ws I0 C) {l g sz bytes n b o:Nat} {t tx ty e:TypeId} {x:Value} {xs ys:List AV} {olds news:List Value} (hnew:¬ C.used g) (he:ElemOk P t e sz bytes)
 (hE0:Es C sz xs olds) (hc0:CellsAt C.w b o olds) (hnx:n = xs.length) (hy0:0 < ys.length) (hs:App P sz tx e x ys.length news C.w) (hy:Es C sz ys news) (hm:n + ys.length ≤ maxLen) (hby:(n + ys.length) * bytes ≤ 140737488355328) :
 ∃ y w' B,(Builtin.append_ #[t,tx] ty #[.slice (some ⟨b,o,none⟩) n n,x]).run P C.w = .ok y w' ∧ C.Le (newAt C w' l g B (.rows g sz (xs ++ ys))) ∧ WR w0 Ws I0 (newAt C w' l g B (.rows g sz (xs ++ ys))) ∧
  SV (newAt C w' l g B (.rows g sz (xs ++ ys))) (.row l sz g 0 (n + ys.length)) y:=by
 obtain ⟨i,hi⟩:∃ i,P.info? e = some i:=by
  have:=he.hs; unfold tsz at this
  cases hq:P.info? e with
  | none=>simp [hq] at this
  | some i=>exact ⟨i,rfl⟩
 have hisz:i.size = sz:=by have:=he.hs; simpa [tsz,hi] using this
 have hiby:i.bytes = bytes:=by have:=he.hb; simpa [hi] using this
 obtain ⟨z,hz,hzs⟩:=he.hz
 have hiz:i.zero = some z:=by simpa [hi] using hz
 have hylen:=Jw hy
 have holen:=Jw hE0
 have ho1:(Builtin.firstCells i.size n (.slice (some ⟨b,o,none⟩) n n)).run P C.w.drew = .ok olds.toArray C.w.drew :=
  run_firstCells_some (P:=P) C.w.drew i.size n ⟨b,o,none⟩ n n _ (by rw [hisz,holen,hnx]) (fun j v hj=>by
   rw [JbM,World.cell?_drew]
   exact hc0 j v hj)
 have hg:n < n + ys.length:=by omega
 have hfit:=growslice_fits hg (by rw [← hiby] at hby; exact hby)
 have hrun:(Builtin.append_ #[t,tx] ty #[.slice (some ⟨b,o,none⟩) n n,x]).run P C.w = .ok (.slice (some ⟨C.w.heap.size,0,none⟩) (n + ys.length) (grownCap C.w (n + ys.length) n e))
  (C.w.drew.alloc (.cells ((olds ++ news).toArray ++ Builtin.zeroCells z.cells (grownCap C.w (n + ys.length) n e - (n + ys.length))) e)):=by
  rcases hs with hs | hs
  ·exact run_append_grow_src (P:=P) C.w t tx ty e i z he.ht hi hiz (some ⟨b,o,none⟩) n n olds ho1 x ys.length news (by rw [hisz]; exact hs) hg (by unfold maxLen at hm; omega) hfit
  ·exact Jlu (P:=P) he.ht hi hiz (some ⟨b,o,none⟩) n n olds ho1 x ys.length news (by rw [hisz]; exact hs) hg (by unfold maxLen at hm; omega) hfit
 have hcap:=grownCap_ge C.w (n + ys.length) n e
 have hcap2:=grownCap_le_maxLen C.w (n + ys.length) n e hm
 have hr:=h.regen (l:=l) (g:=g) (c':=.rows g sz (xs ++ ys)) (w':=C.w.drew.alloc (.cells ((olds ++ news).toArray ++ Builtin.zeroCells z.cells (grownCap C.w (n + ys.length) n e - (n + ys.length))) e)) (row:=none) (B:=some C.w.heap.size)
  (Jzp (World.grownBy_alloc C.w.drew _ none)) rfl hnew (.inl rfl) (.inr (.inr ⟨_,rfl,Nat.le_refl _,by simp⟩))
 have hheap:(C.w.drew.alloc (.cells ((olds ++ news).toArray ++ Builtin.zeroCells z.cells (grownCap C.w (n + ys.length) n e - (n + ys.length))) e)).heap[C.w.heap.size]? = some (.cells ((olds ++ news).toArray ++ Builtin.zeroCells z.cells (grownCap C.w (n + ys.length) n e - (n + ys.length))) e (0,0)):=heap_alloc_new C.w.drew _
 have hE:=JgP hE0 hy
 have hElen:=Jw hE
 have hsize:((olds ++ news).toArray ++ Builtin.zeroCells z.cells (grownCap C.w (n + ys.length) n e - (n + ys.length))).size = grownCap C.w (n + ys.length) n e * sz:=by
  rw [Array.size_append,List.size_toArray,size_zeroCells,hzs,hElen,List.length_append,← hnx,← Nat.add_mul]
  congr 1
  omega
 refine ⟨_,_,some C.w.heap.size,hrun,hr.1,hr.2 (.inr ⟨C.w.heap.size,_,e,_,by simp,hheap,hsize,hcap2,?_,?_⟩),?_⟩
 ·rw [List.length_append]; omega
 ·rw [Array.toList_append,List.take_append_of_le_length (by rw [← hElen]; simp),← hElen]
  simp only [List.take_length]
  exact Jj8 hr.1 _ _ _ hE
 ·show V _ (.row l sz g 0 _) [_]
  simp only [V]
  refine ⟨_,_,rfl,hcap,hcap2,fun _=>rfl,.inr rfl,fun xs' hc=>?_⟩
  simp only [newAt,JU,Option.some.injEq,Loc.rows.injEq,true_and] at hc
  subst hc
  unfold RowVal
  simp only [newAt,JU]
  exact ⟨_,e,_,_,hheap,hsize,hcap2,by omega,rfl,fun _=>by simp⟩
def destA (m:Nat → Option Loc) (d sz:Nat) (a:AV) : Option (Nat × List AV) :=
 match a with
 | .v (.slice none 0 0)=>some (d,[])
 | .row l s0 g 0 n=>match m l with
   | some (.rows g' s xs)=>if g' = g ∧ s = s0 ∧ s = sz ∧ n = xs.length then some (l,xs) else none
   | _=>none
 | _=>none
theorem JUk (hw:WR w0 Ws I0 C) {d sz l:Nat} {a:AV} {x:Value} {xs:List AV} (hp:SV C a x) (h:destA C.m d sz a = some (l,xs)) :
 ∃ ao cap,x = .slice ao xs.length cap ∧ Dest C l sz xs ao xs.length cap:=by
 unfold destA at h
 split at h
 ·simp only [Option.some.injEq,Prod.mk.injEq] at h
  obtain ⟨rfl,rfl⟩:=h
  have hp':V C (.v (.slice none 0 0)) [x]:=hp
  simp only [V] at hp'
  obtain rfl:=(List.cons.inj hp'.1).1
  exact ⟨none,0,rfl,.inl ⟨rfl,rfl,rfl⟩⟩
 ·rename_i l' s0 g n
  split at h
  ·rename_i g' s zs hm
   split at h
   ·rename_i hc
    obtain ⟨rfl,rfl,rfl,rfl⟩:=hc
    simp only [Option.some.injEq,Prod.mk.injEq] at h
    obtain ⟨rfl,rfl⟩:=h
    have hp':V C (.row l' s g' 0 zs.length) [x]:=hp
    simp only [V] at hp'
    obtain ⟨ao,cap0,e1,hnc0,hmx0,hso,hg,k'⟩:=hp'
    obtain rfl:=(List.cons.inj e1).1
    have hrv:=k' _ hm
    unfold RowVal at hrv
    split at hrv
    ·obtain ⟨_,hz,ao,e5⟩:=hrv
     have:zs = []:=List.eq_nil_of_length_eq_zero hz
     subst this
     exact ⟨_,_,rfl,.inl ⟨rfl,rfl,(by simpa using e5:_ ∧ cap0 = 0).2⟩⟩
    ·rename_i b hb
     obtain ⟨cur,T,cap,ad,h1,h2,h3,h4,e5,h6⟩:=hrv
     rw [e5]
     rcases hw.locs l' _ hm with ⟨h7,_⟩ | ⟨b',cur',T',cap',h7,h8,h9,h10,h11,h12⟩
     ·rw [hb] at h7; cases h7
     ·rw [hb] at h7
      obtain rfl:=Option.some.inj h7
      rw [h1] at h8
      obtain ⟨rfl,rfl⟩:=(by simpa using h8:cur = cur' ∧ T = T')
      refine ⟨some ad,cap - 0,rfl,.inr ⟨_,b,cur,T,hm,hb,by rw [h6 (.inr rfl)]; simp,h1,by simpa using h2,by simpa using h3,rfl,by omega,h12⟩⟩
   ·cases h
  ·cases h
 ·cases h
def destV (m:Nat → Option Loc) (d sz:Nat) (a:AV) (ys:List AV) : Option (Nat × List AV) :=
 match a with
 | .vrow l g off s n cap=>if n = cap ∧ 0 < n ∧ ys ≠ [] then (srcA m sz (.vrow l g off s n cap)).map fun xs=>(d,xs) else none
 | a=>destA m d sz a
theorem J6i {sz:Nat} {tx e':TypeId} {xs:List AV} {ao:Option Addr} {cap:Nat} {news:List Value} {w:World} (hk:P.underlying tx = some (.slice e')) (hE:Es C sz xs news)
 (hc:xs = [] ∨ ∃ b o,ao = some ⟨b,o,none⟩ ∧ CellsAt w b o news):Src P sz tx (.slice ao xs.length cap) xs.length news w:=by
 have hl:=Jw hE
 have h1:=JpF _ _ _ hE
 rcases hc with rfl | ⟨b,o,rfl,hc⟩
 ·have hn:news = []:=List.eq_nil_of_length_eq_zero (by simpa using hl)
  subst hn
  cases ao with
  | none=>exact Src.ofNil w hk cap
  | some a=>exact Src.ofSlice w hk a 0 cap [] (by simp) (fun j u h=>by simp at h) (fun u h=>by cases h)
 ·exact Src.ofSlice w hk ⟨b,o,none⟩ _ cap news hl (fun j u hu=>by rw [JbM]; exact hc j u hu) h1
end
end
section
open Go Go.Lib
section
variable {P:Program} {w0:World} {Ws I0:Nat → Prop} {C:Ctx}
def splice {α:Type} (zs:List α) (i:Nat) (ys:List α) : List α := zs.take i ++ ys ++ zs.drop (i + ys.length)
theorem J0g {sz i:Nat} {zs ys:List AV} {cs d:List Value} (h:Es C sz zs cs) (k:Es C sz ys d) (_hi:i + ys.length ≤ zs.length) : Es C sz (splice zs i ys) (cs.take (i * sz) ++ d ++ cs.drop (i * sz + d.length)) := by
 have h2:=JN4 (n:=i + ys.length) h
 rw [Nat.add_mul,← Jw k] at h2
 exact JgP (JgP (JKY h) k) h2
def overA (m:Nat → Option Loc) (sz:Nat) (a:AV) (ys:List AV) : Option (Nat × Loc) :=
 match a with
 | .vrow l g off s n _=>match m l with
   | some (.var g' (.arr s' zs))=>if g' = g ∧ s = sz ∧ s' = sz ∧ 0 < sz ∧ off % sz = 0 ∧ ys.length ≤ n ∧ off / sz + ys.length ≤ zs.length then some (l,.var g' (.arr sz (splice zs (off / sz) ys))) else none
   | _=>none
 | _=>none
theorem JZw (hw:WR w0 Ws I0 C) {sz l:Nat} {a:AV} {x:Value} {ys:List AV} {c':Loc} {d:List Value} (hp:SV C a x) (h:overA C.m sz a ys = some (l,c')) (hd:Es C sz ys d) :
 ∃ ad n cap w',x = .slice (some ad) n cap ∧ ys.length ≤ n ∧ (storeCells ad d).run P C.w = .ok () w' ∧ C.Le { C with w:=w',m:=upd C.m l (some c') } ∧ WR w0 Ws I0 { C with w:=w',m:=upd C.m l (some c') }:=by
 unfold overA at h
 split at h
 ·rename_i l' g off s n cap
  split at h
  ·rename_i g' s' zs hm
   split at h
   ·rename_i hc
    obtain ⟨rfl,rfl,rfl,h0,h1,h2,h3⟩:=hc
    simp only [Option.some.injEq,Prod.mk.injEq] at h
    obtain ⟨rfl,rfl⟩:=h
    have hp':V C (.vrow l' g' off s' n cap) [x]:=hp
    simp only [V] at hp'
    obtain ⟨ad,e1,hnc,hmx,hg,k'⟩:=hp'
    obtain rfl:=(List.cons.inj e1).1
    obtain ⟨b,hb,ha⟩:=k' _ hm
    obtain ⟨b',cur,T,q1,q2,q3⟩:=hw.locs l' _ hm
    rw [hb] at q1
    obtain rfl:=Option.some.inj q1
    simp only [V] at q3
    have hdl:=Jw hd
    have e2:off / s' * s' = off:=by have:=Nat.div_add_mod off s'; rw [h1] at this; rw [Nat.mul_comm]; omega
    have hzl:=Jw q3
    have hfit:off + d.length ≤ cur.size:=by
     have:=Nat.mul_le_mul_right s' h3
     rw [Nat.add_mul,e2] at this
     rw [hdl]
     simp only [Array.length_toList] at hzl
     omega
    have hE:=J0g q3 hd h3
    rw [e2] at hE
    have hheap:=setRow_heap C.w b cur (cur.toList.take off ++ d ++ cur.toList.drop (off + d.length)).toArray T _ q2
    have hput:=hw.put hm hb q2 (Jgo C.w b _) hheap (by simp; omega) (c':=.var g' (.arr s' (splice zs (off / s') ys))) (by simp [Loc.same])
    have hok:=hput.2 ⟨b,_,T,hb,hheap,by simp only [V]; exact Jj8 hput.1 _ _ _ (by simpa using hE)⟩
    refine ⟨ad,n,cap,_,rfl,h2,?_,hput.1,hok⟩
    by_cases hd0:d = []
    ·subst hd0
     have hself:(cur.toList.take off ++ [] ++ cur.toList.drop (off + 0)).toArray = cur:=by simp
     simp only [storeCells,List.length_nil,hself,setRow_self C.w b cur T _ q2]
     rfl
    ·have hpos:0 < cap:=by
      have:0 < d.length:=List.length_pos_iff.2 hd0
      rcases Nat.eq_zero_or_pos cap with h | h
      ·have:ys.length = 0:=by omega
       rw [this] at hdl; omega
      ·exact h
     obtain rfl:=ha hpos
     have hst:=run_storeCells_at P b off T d 0 cur C.w q2 (by simpa using hfit) (JpF _ _ _ hd)
     simp only [Nat.add_zero] at hst
     exact hst
   ·cases h
  ·cases h
 ·cases h
def copyN (a:AV) (ys:List AV) : Nat := match a with | .vrow _ _ _ _ n _ => min ys.length n | _ => 0
theorem J12 (hw:WR w0 Ws I0 C) {sz l:Nat} {dT sT ty e:TypeId} {a b:AV} {x y:Value} {ys:List AV} {c':Loc} (hu:P.underlying dT = some (.slice e)) (hs:tsz P e = some sz) (hx:SV C a x) (hy:SV C b y)
 (hsrc:srcA C.m sz b = some ys) (h:overA C.m sz a (ys.take (copyN a ys)) = some (l,c')) :
 ∃ w',(Builtin.copy_ #[dT,sT] ty #[x,y]).run P C.w = .ok (.int .i64 (copyN a ys)) w' ∧ C.Le { C with w:=w',m:=upd C.m l (some c') } ∧ WR w0 Ws I0 { C with w:=w',m:=upd C.m l (some c') }:=by
 obtain ⟨ao,cap,news,rfl,h1,h2,h3,h4⟩:=JR8 hw hy hsrc
 have hE:=JKY (n:=copyN a ys) h3
 obtain ⟨ad,n,cap',w',rfl,k1,k2,k3,k4⟩:=JZw (P:=P) hw hx h hE
 have hn:copyN a ys = min ys.length n:=by
  unfold overA at h
  split at h
  ·rename_i l' g off s n' cap''
   have hp':V C (.vrow l' g off s n' cap'') [.slice (some ad) n cap']:=hx
   simp only [V] at hp'
   obtain ⟨a',e1,_⟩:=hp'
   have e2:=(List.cons.inj e1).1
   simp only [Value.slice.injEq] at e2
   obtain ⟨_,rfl,_⟩:=e2
   rfl
  ·cases h
 refine ⟨w',?_,k3,k4⟩
 have hcells:(Builtin.firstCells sz (copyN a ys) (.slice ao ys.length cap)).run P C.w = .ok (news.take (copyN a ys * sz)).toArray C.w:=by
  have hnl:=Jw h3
  have hle:copyN a ys * sz ≤ news.length:=by rw [hnl]; exact Nat.mul_le_mul_right _ (by rw [hn]; exact Nat.min_le_left _ _)
  rcases h4 with rfl | ⟨bb,o,rfl,hc,_⟩
  ·have hn0:news = []:=List.eq_nil_of_length_eq_zero (by simpa using hnl)
   have hz:copyN a [] = 0:=by rw [hn]; simp
   subst hn0
   rw [hz]
   cases ao with
   | none=>simp [Builtin.firstCells]
   | some a'=>simp [Builtin.firstCells,loadCells,loadCellsFrom]
  ·refine run_firstCells_some (P:=P) C.w sz (copyN a ys) ⟨bb,o,none⟩ _ cap _ (by rw [List.length_take,Nat.min_eq_left hle]) (fun j v hj=>?_)
   rw [JbM]
   refine hc j v ?_
   rw [List.getElem?_take] at hj
   split at hj
   ·exact hj
   ·cases hj
 have hmin:Nat.min ys.length n = copyN a ys:=hn.symm
 simp [Builtin.copy_,run_underlying hu,Builtin.lenOf,JP hs,hmin,hcells,k2,goInt]
theorem JHB {z:Value} {av:AV} {sz:Nat} (hf:flat av = some z.cells.toList) (hl:z.cells.size = sz) (h0:0 < sz) (n:Nat) : Es C sz (List.replicate n av) (Builtin.zeroCells z.cells n).toList := by
 have:=Jm8 (C:=C) hf hl h0 n
 unfold madeCells at this
 unfold Builtin.zeroCells
 rw [hl]
 rw [hl] at this
 exact this
def clearN (a:AV) : Nat := match a with | .vrow _ _ _ _ n _ => n | _ => 0
theorem JZA (hw:WR w0 Ws I0 C) {sz l:Nat} {t ty e:TypeId} {a z:AV} {x:Value} {cs:List Value} {c':Loc} (hu:P.underlying t = some (.slice e)) (hs:tzero P e = some cs) (hf:flat z = some cs) (hl:cs.length = sz) (h0:0 < sz) (hx:SV C a x)
 (h:overA C.m sz a (List.replicate (clearN a) z) = some (l,c')) :
 ∃ w',(Builtin.clear_ #[t] ty #[x]).run P C.w = .ok (.tuple #[]) w' ∧ C.Le { C with w:=w',m:=upd C.m l (some c') } ∧ WR w0 Ws I0 { C with w:=w',m:=upd C.m l (some c') }:=by
 obtain ⟨zv,hr,rfl⟩:=Jz7 (P:=P) (w:=C.w) hs
 have hE:=JHB (C:=C) hf (by simpa using hl) h0 (clearN a)
 obtain ⟨ad,n,cap',w',rfl,k1,k2,k3,k4⟩:=JZw (P:=P) hw hx h hE
 have hn:clearN a = n:=by
  unfold overA at h
  split at h
  ·rename_i l' g off s n' cap''
   have hp':V C (.vrow l' g off s n' cap'') [.slice (some ad) n cap']:=hx
   simp only [V] at hp'
   obtain ⟨a',e1,_⟩:=hp'
   have e2:=(List.cons.inj e1).1
   simp only [Value.slice.injEq] at e2
   obtain ⟨_,rfl,_⟩:=e2
   rfl
  ·cases h
 refine ⟨w',?_,k3,k4⟩
 rw [hn] at k2
 cases n with
 | zero =>
   have:(Builtin.zeroCells zv.cells 0).toList = []:=by simp [Builtin.zeroCells]
   rw [this] at k2
   simp only [storeCells,Sem.run_pure,Result.ok.injEq,true_and] at k2
   subst k2
   simp [Builtin.clear_,run_underlying hu]
 | succ n=>simp [Builtin.clear_,run_underlying hu,hr,k2]
theorem JYG (hw:WR w0 Ws I0 C) {a:AV} {x:Value} {src dst e:TypeId} {xs:List AV} {ns:List Int} (hs:P.underlying src = some (.slice e)) (he:P.underlying e = some (.int .u8)) (hd:P.underlying dst = some .string)
 (hx:SV C a x) (h:srcA C.m 1 a = some xs) (hn:intsOf .u8 xs = some ns):(convert src dst x).run P C.w = .ok (.string (strOfNums ns)) C.w:=by
 obtain ⟨ao,cap,news,rfl,h1,h2,h3,h4⟩:=JR8 hw hx h
 have hc:=Jbe hn h3
 have hlen:=Jw h3
 have hl:xs.length = ns.length:=by rw [hc] at hlen; simpa using hlen.symm
 have key:∀ (a:Addr),(loadCells a xs.length).run P C.w = .ok (ns.map (Value.int .u8)).toArray C.w → (convert src dst (.slice (some a) xs.length cap)).run P C.w = .ok (.string (strOfNums ns)) C.w:=by
  intro a hload
  rw [run_convert_bytes_string C.w src dst e _ _ cap hs he hd,run_bytesToString C.w _ _ cap ns hload,foldl_push_bytes]
  simp [strOfNums,ByteArray.empty,ByteArray.emptyWithCapacity]
  rfl
 rcases h4 with rfl | ⟨b,o,rfl,hcell,_⟩
 ·have hns:ns = []:=List.eq_nil_of_length_eq_zero (by simpa using hl.symm)
  subst hns
  cases ao with
  | none=>exact run_convert_bytes_nil C.w src e hs he 0 cap dst hd
  | some a=>exact key a (by simp [loadCells,loadCellsFrom])
 ·refine key ⟨b,o,none⟩ ?_
  have:=run_loadCells_list (P:=P) C.w ⟨b,o,none⟩ (ns.map (Value.int .u8)) (fun j v hj=>by rw [JbM]; exact hcell j v (by rw [hc]; exact hj))
  rwa [List.length_map,← hl] at this
def bytesAV (s:ByteArray) : List AV := s.data.toList.map fun b => .v (.int .u8 b.toNat)
theorem JVZ (s:ByteArray) : Es C 1 (bytesAV s) (byteCells s) := by
 unfold bytesAV byteCells
 induction s.data.toList with
 | nil=>simp [Es]
 | cons b l ih =>
   simp only [List.map_cons,Es]
   exact ⟨[_],_,rfl,rfl,by simp [V,Value.oneCell'],ih⟩
theorem JZy (hw:WR w0 Ws I0 C) {s:ByteArray} {x:Value} {src dst e:TypeId} {u:TypeDesc} (hs:P.underlying src = some u) (hd:P.underlying dst = some (.slice e)) (he:P.underlying e = some (.int .u8)) (hx:SV C (.v (.string s)) x) (hm:s.size ≤ maxLen) :
 ∃ y w',(convert src dst x).run P C.w = .ok y w' ∧ C.Le { C with w:=w',I:=fun k=>C.I k ∨ k = C.w.heap.size } ∧ WR w0 Ws I0 { C with w:=w',I:=fun k=>C.I k ∨ k = C.w.heap.size } ∧
  SV { C with w:=w',I:=fun k=>C.I k ∨ k = C.w.heap.size } (.sl 1 (bytesAV s)) y:=by
 have hx':V C (.v (.string s)) [x]:=hx
 simp only [V] at hx'
 obtain rfl:=(List.cons.inj hx'.1).1
 have hg:C.w.grownBy (bytesWorld C.w e s) none:=by
  exact ⟨rfl,rfl,rfl,by rw [bytesWorld_size]; omega,fun k hk _=>bytesWorld_at_old C.w e s k hk⟩
 obtain ⟨k1,k2⟩:=hw.newI hg (Nat.le_refl _) (by rw [bytesWorld_size]; omega)
 refine ⟨_,_,Go.Lib.run_convert_string_bytes C.w src dst e s hs hd he,k1,k2,?_⟩
 show V _ (.sl 1 (bytesAV s)) [_]
 simp only [V]
 have hlen:(bytesAV s).length = s.size:=by simp [bytesAV]
 have hge:=grownCap_ge C.w s.size 0 e
 refine ⟨some ⟨C.w.heap.size,0,none⟩,grownCap C.w s.size 0 e,byteCells s,by rw [hlen],by rw [hlen]; exact hge,grownCap_le_maxLen C.w _ _ _ hm,JVZ s,.inr ⟨_,0,rfl,.inr rfl,?_⟩⟩
 intro j v hj
 have hjl:j < s.size:=by
  have:=(List.getElem?_eq_some_iff.1 hj).1
  rwa [byteCells_length] at this
 rw [Nat.zero_add,bytesWorld_cell C.w e s j hjl]
 unfold byteCells at hj
 rw [List.getElem?_map] at hj
 obtain ⟨b,hb,rfl⟩:=Option.map_eq_some_iff.1 hj
 simp [List.getD,hb]
theorem JZX (hw:WR w0 Ws I0 C) {l g n:Nat} {x:Value} {t e:TypeId} {xs:List AV} (hs:P.underlying t = some (.slice e)) (he:P.underlying e = some (.int .u8)) (hx:SV C (.row l 1 g 0 n) x) (hm:C.m l = some (.rows g 1 xs)) (hn:n = xs.length) (h0:0 < n) :
 ∃ w' b,(convert t t x).run P C.w = .ok x w' ∧ C.Le { C with w:=w',I:=fun k=>C.I k ∨ k = b,m:=upd C.m l none } ∧ WR w0 Ws I0 { C with w:=w',I:=fun k=>C.I k ∨ k = b,m:=upd C.m l none } ∧
  SV { C with w:=w',I:=fun k=>C.I k ∨ k = b,m:=upd C.m l none } (.sl 1 xs) x:=by
 have hx':V C (.row l 1 g 0 n) [x]:=hx
 simp only [V] at hx'
 obtain ⟨ao,cap0,e1,_,_,_,hg,k'⟩:=hx'
 obtain rfl:=(List.cons.inj e1).1
 have hrv:=k' _ hm
 unfold RowVal at hrv
 split at hrv
 ·omega
 ·rename_i b hb
  obtain ⟨cur,T,cap,ad,h1,h2,h3,h4,e5,h6⟩:=hrv
  rw [e5]
  obtain rfl:=h6 (.inr rfl)
  have hfz:(C.w.freeze ⟨b,cur.size,none⟩ 1).heap[b]? = some (.cells cur T (cur.size,cur.size + 1)):=by
   obtain ⟨hlt,hget⟩:=Array.getElem?_eq_some_iff.1 h1
   simp only [World.freeze,Nat.one_ne_zero,if_false,Array.getElem?_modify,if_true,h1,Option.map_some]
   simp
  have hother:∀ k,k ≠ b → (C.w.freeze ⟨b,cur.size,none⟩ 1).heap[k]? = C.w.heap[k]?:=by
   intro k hk
   simp only [World.freeze,Nat.one_ne_zero,if_false,Array.getElem?_modify]
   rw [if_neg (fun e=>hk e.symm)]
  have hrun:(convert t t (.slice (some ⟨b,0 * 1,none⟩) n (cap - 0))).run P C.w = .ok (.slice (some ⟨b,0 * 1,none⟩) n (cap - 0)) (C.w.freeze ⟨b,cur.size,none⟩ 1):=by
   have hshape:C.w.shape? b = some (T,cur.size):=by simp [World.shape?,h1]
   simp [convert,run_underlying hs,run_underlying he,markStringish,hshape]
  have hsz:(C.w.freeze ⟨b,cur.size,none⟩ 1).heap.size = C.w.heap.size:=by simp [World.freeze]
  have hg:C.w.grownBy (C.w.freeze ⟨b,cur.size,none⟩ 1) (some b) :=
   ⟨by simp [World.freeze],by simp [World.freeze],by simp [World.freeze],by omega,fun k _ hn=>hother k (by simpa using hn)⟩
  obtain ⟨k1,k2⟩:=hw.freezeW hm hb hg
  refine ⟨_,b,hrun,k1,k2,?_⟩
  subst hn
  rcases hw.locs l _ hm with ⟨h7,_⟩ | ⟨b',cur',T',cap',h7,h8,h9,h10,h11,h12⟩
  ·rw [hb] at h7; cases h7
  ·rw [hb] at h7
   obtain rfl:=Option.some.inj h7
   rw [h1] at h8
   obtain ⟨rfl,rfl⟩:=(by simpa using h8:cur = cur' ∧ T = T')
   show V _ (.sl 1 xs) [_]
   simp only [V]
   refine ⟨_,cap - 0,_,rfl,by omega,by omega,Jj8 k1 _ _ _ h12,.inr ⟨b,0 * 1,rfl,.inr rfl,?_⟩⟩
   have:=Jby (o:=0) (n:=xs.length * 1) hfz
   rwa [List.drop_zero] at this
end
def aggOk (agg:Bool) (sz:Nat) : Bool := agg || sz == 1
theorem JmG {agg:Bool} {sz:Nat} (h:aggOk agg sz = true) : agg = false → sz = 1 := by
 intro e; subst e; simpa [aggOk] using h
def isEnt (ks vs:Nat) : AV → Bool
 | .node [k,v,b]=>k.size == ks && v.size == vs && b.size == 1
 | _=>false
def allEnt (ks vs:Nat) : List AV → Bool
 | []=>true
 | e :: es=>isEnt ks vs e && allEnt ks vs es
def entA (k v:AV) (n:Int) : AV := .node [k,v,.v (.int .i64 n)]
def entS (k v b:AV) : AV := .node [k,v,b]
theorem JZ9 (k v:AV) (n:Int) : entS k v (.v (.int .i64 n)) = entA k v n := rfl
def entK : AV → AV
 | .node [k,_,_]=>k
 | _=>.top
def entV : AV → AV
 | .node [_,v,_]=>v
 | _=>.top
def entB : AV → AV
 | .node [_,_,b]=>b
 | _=>.top
def findA (sh:Sh) (k:AV) : List AV → Option (Option Nat)
 | []=>some none
 | e :: es=>(cmpA sh k (entK e)).bind fun r=>if r = true then some (some 0) else (findA sh k es).map (Option.map (· + 1))
theorem JVP {ks vs:Nat} {e:AV} (h:isEnt ks vs e = true) : ∃ k v b,e = .node [k,v,b] ∧ k.size = ks ∧ v.size = vs ∧ b.size = 1 := by
 unfold isEnt at h
 split at h
 ·rename_i k v b
  simp only [Bool.and_eq_true,beq_iff_eq] at h
  exact ⟨k,v,b,rfl,h.1.1,h.1.2,h.2⟩
 ·cases h
structure EntV (C:Ctx) (e:AV) (p:List Value × List Value × Nat) : Prop where
 k:V C (entK e) p.1
 v:V C (entV e) p.2.1
 b:V C (entB e) [.int .i64 (p.2.2:Nat)]
theorem JOf (p:List Value × List Value × Nat) : (entCells p).length = p.1.length + p.2.1.length + 1 := by simp [entCells]; omega
theorem J4L {C:Ctx} {ks vs:Nat} {e:AV} {p:List Value × List Value × Nat} (he:isEnt ks vs e = true) (hk:p.1.length = ks) (h:V C e (entCells p)) : EntV C e p := by
 obtain ⟨k,v,b,rfl,h1,h2,h3⟩:=JVP he
 simp only [V,Vs] at h
 obtain ⟨c1,r1,e1,k1,c2,r2,e2,k2,c3,r3,e3,k3,e4⟩:=h
 subst e4
 have l1:=Jbn _ _ k1
 have l3:=Jbn _ _ k3
 unfold entCells at e1
 rw [List.append_assoc] at e1
 obtain ⟨rfl,e5⟩:=List.append_inj e1 (by omega)
 rw [e2,e3,List.append_nil] at e5
 obtain ⟨e6,e7⟩:=List.append_inj' e5 (by simp; omega)
 exact ⟨k1,by rw [show entV (.node [k,v,b]) = v from rfl,e6]; exact k2,by rw [show entB (.node [k,v,b]) = b from rfl,e7]; exact k3⟩
theorem V_ent {C:Ctx} {k v b:AV} {kc vc:List Value} {n:Nat} (hk:V C k kc) (hv:V C v vc) (hb:V C b [.int .i64 (n:Nat)]) : V C (.node [k,v,b]) (entCells (kc,vc,n)) := by
 simp only [V,Vs,entCells]
 exact ⟨kc,vc ++ [.int .i64 (n:Nat)],by simp,hk,vc,_,rfl,hv,_,[],by simp,hb,rfl⟩
theorem Job {C:Ctx} {ks vs:Nat} : ∀ {es:List AV} {ps:List (List Value × List Value × Nat)},allEnt ks vs es = true → (∀ p ∈ ps,p.1.length = ks ∧ p.2.1.length = vs) → Vs C es (ps.flatMap entCells) →
 es.length = ps.length ∧ ∀ (i:Nat) (e:AV) (p:List Value × List Value × Nat),es[i]? = some e → ps[i]? = some p → isEnt ks vs e = true ∧ V C e (entCells p)
 | [],ps,_,hl,h=>by
   simp only [Vs] at h
   cases ps with
   | nil=>exact ⟨rfl,fun i e p h1=>by simp at h1⟩
   | cons p ps=>simp [entCells] at h
 | e :: es,ps,ha,hl,h=>by
   simp only [allEnt,Bool.and_eq_true] at ha
   simp only [Vs] at h
   obtain ⟨c1,c2,e1,h1,h2⟩:=h
   have hs:=Jbn _ _ h1
   obtain ⟨k,v,b,rfl,s1,s2,s3⟩:=JVP ha.1
   cases ps with
   | nil =>
     simp only [AV.size,AV.sizes] at hs
     have:=congrArg List.length e1
     simp only [List.flatMap_nil,List.length_nil,List.length_append] at this
     omega
   | cons p ps =>
     have hp:=hl p List.mem_cons_self
     rw [List.flatMap_cons] at e1
     have hlen:(entCells p).length = c1.length:=by
      rw [JOf,hs]
      simp only [AV.size,AV.sizes]
      omega
     obtain ⟨rfl,rfl⟩:=List.append_inj e1 hlen
     obtain ⟨k1,k2⟩:=Job ha.2 (fun q hq=>hl q (List.mem_cons_of_mem _ hq)) h2
     refine ⟨by simp [k1],fun i e' p' h3 h4=>?_⟩
     cases i with
     | zero =>
       simp only [List.getElem?_cons_zero,Option.some.injEq] at h3 h4
       subst h3 h4
       exact ⟨ha.1,h1⟩
     | succ i=>exact k2 i e' p' (by simpa using h3) (by simpa using h4)
theorem JJg {C:Ctx} : ∀ {es:List AV} {ps:List (List Value × List Value × Nat)},es.length = ps.length → (∀ (i:Nat) (e:AV) (p:List Value × List Value × Nat),es[i]? = some e → ps[i]? = some p → V C e (entCells p)) → Vs C es (ps.flatMap entCells)
 | [],[],_,_=>by simp [Vs]
 | e :: es,p :: ps,hl,h=>by
   simp only [Vs,List.flatMap_cons]
   exact ⟨_,_,rfl,h 0 e p rfl rfl,JJg (by simpa using hl) (fun i e' p' h1 h2=>h (i + 1) e' p' (by simpa using h1) (by simpa using h2))⟩
 | [],_ :: _,hl,_=>by simp at hl
 | _ :: _,[],hl,_=>by simp at hl
theorem JXI {k:IntKind} {xs ys:List AV} {a:List Int} {cs ds:List Value} {C:Ctx} (h1:intsOf k xs = some a) (h2:intsOf k ys = some a) (v1:Es C 1 xs cs) (v2:Es C 1 ys ds) : cs = ds := by
 rw [Jbe h1 v1,Jbe h2 v2]
mutual
theorem JYn {C:Ctx} : ∀ {s:Sh} {x y:AV} {cs ds:List Value},cmpA s x y = some true → V C x cs → V C y ds → cs = ds
 | .int k,x,y,cs,ds,h,hx,hy=>by
   simp only [cmpA] at h
   split at h
   ·split at h
    ·obtain rfl:=V_one hx
     obtain rfl:=V_one hy
     rename_i hk
     obtain ⟨rfl,rfl⟩:=hk
     simp only [Option.some.injEq,beq_iff_eq] at h
     rw [h]
    ·cases h
   ·cases h
 | .str,x,y,cs,ds,h,hx,hy=>by
   simp only [cmpA] at h
   split at h
   ·obtain rfl:=V_one hx
    obtain rfl:=V_one hy
    rename_i a b
    simp only [Option.some.injEq,beq_iff_eq] at h
    rw [ByteArray.toList_eq,ByteArray.toList_eq] at h
    rw [WideShapes.bytes_inj h]
   ·cases h
 | .bool,x,y,cs,ds,h,hx,hy=>by
   simp only [cmpA] at h
   split at h
   ·obtain rfl:=V_one hx
    obtain rfl:=V_one hy
    simp only [Option.some.injEq,beq_iff_eq] at h
    rw [h]
   ·cases h
 | .ints k n,x,y,cs,ds,h,hx,hy=>by
   simp only [cmpA] at h
   split at h
   ·split at h
    ·rename_i h1 h2
     split at h
     ·simp only [Option.some.injEq,beq_iff_eq] at h
      subst h
      simp only [V] at hx hy
      exact JXI h1 h2 hx hy
     ·cases h
    ·cases h
   ·cases h
 | .st ss,x,y,cs,ds,h,hx,hy=>by
   simp only [cmpA] at h
   split at h
   ·simp only [V] at hx hy
    exact JZa h hx hy
   ·cases h
theorem JZa {C:Ctx} : ∀ {ss:List Sh} {xs ys:List AV} {cs ds:List Value},cmpL ss xs ys = some true → Vs C xs cs → Vs C ys ds → cs = ds
 | [],xs,ys,cs,ds,h,hx,hy=>by
   unfold cmpL at h
   split at h
   ·simp only [Vs] at hx hy
    rw [hx,hy]
   ·rename_i e; cases e
   ·cases h
 | s :: ss,xs,ys,cs,ds,h,hx,hy=>by
   unfold cmpL at h
   split at h
   ·rename_i e; cases e
   ·rename_i s' ss' x xs y ys e
    obtain ⟨rfl,rfl⟩:=List.cons.inj e
    simp only [Option.bind_eq_some_iff,Option.map_eq_some_iff,Bool.and_eq_true] at h
    obtain ⟨r1,hr1,r2,hr2,rfl,rfl⟩:=h
    simp only [Vs] at hx hy
    obtain ⟨c1,c2,rfl,h1,h2⟩:=hx
    obtain ⟨d1,d2,rfl,h3,h4⟩:=hy
    rw [JYn hr1 h1 h3,JZa hr2 h2 h4]
   ·cases h
end
def simpleV : Value → Bool
 | .int _ _ | .string _ | .bool _=>true
 | _=>false
theorem Juo {x:Value} (h:simpleV x = true) (n:Nat) : Instr.sameBits (n + 1) x x = true := by
 cases x <;> simp [simpleV] at h <;> simp [Instr.sameBits,MapKept.bytes_beq]
theorem JQA {C:Ctx} {k:IntKind} {xs:List AV} {a:List Int} {cs:List Value} (h:intsOf k xs = some a) (v:Es C 1 xs cs) : ∀ u ∈ cs,simpleV u = true := by
 rw [Jbe h v]
 intro u hu
 obtain ⟨x,_,rfl⟩:=List.mem_map.1 hu
 rfl
mutual
theorem JOe {C:Ctx} : ∀ {s:Sh} {x y:AV} {cs:List Value} {r:Bool},cmpA s x y = some r → V C x cs → ∀ u ∈ cs,simpleV u = true
 | .int k,x,y,cs,r,h,hx=>by
   simp only [cmpA] at h
   split at h
   ·obtain rfl:=V_one hx
    intro u hu
    obtain rfl:=List.mem_singleton.1 hu
    rfl
   ·cases h
 | .str,x,y,cs,r,h,hx=>by
   simp only [cmpA] at h
   split at h
   ·obtain rfl:=V_one hx
    intro u hu
    obtain rfl:=List.mem_singleton.1 hu
    rfl
   ·cases h
 | .bool,x,y,cs,r,h,hx=>by
   simp only [cmpA] at h
   split at h
   ·obtain rfl:=V_one hx
    intro u hu
    obtain rfl:=List.mem_singleton.1 hu
    rfl
   ·cases h
 | .ints k n,x,y,cs,r,h,hx=>by
   simp only [cmpA] at h
   split at h
   ·split at h
    ·rename_i h1 h2
     simp only [V] at hx
     exact JQA h1 hx
    ·cases h
   ·cases h
 | .st ss,x,y,cs,r,h,hx=>by
   simp only [cmpA] at h
   split at h
   ·simp only [V] at hx
    exact JOg h hx
   ·cases h
theorem JOg {C:Ctx} : ∀ {ss:List Sh} {xs ys:List AV} {cs:List Value} {r:Bool},cmpL ss xs ys = some r → Vs C xs cs → ∀ u ∈ cs,simpleV u = true
 | [],xs,ys,cs,r,h,hx=>by
   unfold cmpL at h
   split at h
   ·simp only [Vs] at hx
    subst hx
    intro u hu
    cases hu
   ·rename_i e; cases e
   ·cases h
 | s :: ss,xs,ys,cs,r,h,hx=>by
   unfold cmpL at h
   split at h
   ·rename_i e; cases e
   ·rename_i s' ss' x xs y ys e
    obtain ⟨rfl,rfl⟩:=List.cons.inj e
    simp only [Option.bind_eq_some_iff,Option.map_eq_some_iff] at h
    obtain ⟨r1,hr1,r2,hr2,_⟩:=h
    simp only [Vs] at hx
    obtain ⟨c1,c2,rfl,h1,h2⟩:=hx
    intro u hu
    rcases List.mem_append.1 hu with hu | hu
    ·exact JOe hr1 h1 u hu
    ·exact JOg hr2 h2 u hu
   ·cases h
end
theorem JYs {P:Program} {w:World} {ka:Bool} {cs:List Value} (h:∀ u ∈ cs,simpleV u = true) (h1:ka = false → cs.length = 1) : (Instr.keyThatStays (valOf ka cs) (valOf ka cs)).run P w = .ok (valOf ka cs) w := by
 have key:Instr.sameBits 10000 (valOf ka cs) (valOf ka cs) = true:=by
  cases ka with
  | true =>
    show Instr.sameBits (9999 + 1) (.agg cs.toArray) (.agg cs.toArray) = true
    simp only [Instr.sameBits,beq_self_eq_true,Bool.true_and,List.all_eq_true]
    rintro ⟨x,y⟩ hxy
    have:x = y ∧ x ∈ cs:=by
     have h2:∀ l:List Value,(x,y) ∈ l.zip l → x = y ∧ x ∈ l:=by
      intro l
      induction l with
      | nil=>intro h; cases h
      | cons a l ih =>
        intro h
        rw [List.zip_cons_cons] at h
        rcases List.mem_cons.1 h with e | h
        ·obtain ⟨rfl,rfl⟩:=(by simpa using e:x = a ∧ y = a)
         exact ⟨rfl,List.mem_cons_self⟩
        ·exact ⟨(ih h).1,List.mem_cons_of_mem _ (ih h).2⟩
     exact h2 _ hxy
    obtain ⟨rfl,hm⟩:=this
    exact Juo (h x hm) 9998
  | false =>
    match cs,h1 rfl,h with
    | [x],_,h=>exact Juo (h x (by simp)) 9999
 simp [Instr.keyThatStays,key]
theorem JQu {α:Type} {P:Program} {w:World} {body:α → Sem (ForInStep PUnit)} : ∀ (l:List α),(∀ x ∈ l,(body x).run P w = .ok (.yield ⟨⟩) w) → (forIn l PUnit.unit (fun x _=>body x):Sem PUnit).run P w = .ok ⟨⟩ w
 | [],_=>by simp
 | x :: l,h=>by
   simp only [List.forIn_cons,Sem.run_bind,h x List.mem_cons_self,Result.andThen_ok]
   exact JQu l (fun y hy=>h y (List.mem_cons_of_mem _ hy))
mutual
theorem checkSh {P:Program} {C:Ctx} {w:World} (em:Bool) : ∀ (s:Sh) (t:TypeId) (a b:AV) (cs:List Value) (r:Bool) (D:Nat),chkSh P s t = true → cmpA s a b = some r → V C a cs → Sh.dep s ≤ D →
 (Instr.checkKey em D t (valOf s.agg cs)).run P w = .ok () w
 | .int k,t,a,b,cs,r,D,hc,h,ha,hD=>by
   obtain ⟨D,rfl⟩:∃ D',D = D' + 1:=⟨D - 1,by simp only [Sh.dep] at hD; omega⟩
   simp only [chkSh,Bool.and_eq_true,beq_iff_eq] at hc
   rw [Instr.checkKey]
   simp [run_underlying (JoW hc.1)]
 | .str,t,a,b,cs,r,D,hc,h,ha,hD=>by
   obtain ⟨D,rfl⟩:∃ D',D = D' + 1:=⟨D - 1,by simp only [Sh.dep] at hD; omega⟩
   simp only [chkSh,Bool.and_eq_true,beq_iff_eq] at hc
   obtain ⟨hc,_⟩:=hc
   split at hc
   ·rename_i hu
    rw [Instr.checkKey]
    simp [run_underlying hu]
   ·cases hc
 | .bool,t,a,b,cs,r,D,hc,h,ha,hD=>by
   obtain ⟨D,rfl⟩:∃ D',D = D' + 1:=⟨D - 1,by simp only [Sh.dep] at hD; omega⟩
   simp only [chkSh,Bool.and_eq_true,beq_iff_eq] at hc
   obtain ⟨hc,_⟩:=hc
   split at hc
   ·rename_i hu
    rw [Instr.checkKey]
    simp [run_underlying hu]
   ·cases hc
 | .ints k n,t,a,b,cs,r,D,hc,h,ha,hD=>by
   obtain ⟨D,rfl⟩:∃ D',D = D' + 2:=⟨D - 2,by simp only [Sh.dep] at hD; omega⟩
   simp only [chkSh,Bool.and_eq_true,beq_iff_eq] at hc
   obtain ⟨hc,_⟩:=hc
   split at hc
   ·rename_i n' e hu
    simp only [Bool.and_eq_true,beq_iff_eq] at hc
    obtain ⟨⟨rfl,he⟩,hs⟩:=hc
    have hsz:=Jum h
    have hl:=Jbn _ _ ha
    rw [hsz.1] at hl
    simp only [Sh.sz] at hl
    show (Instr.checkKey em (D + 2) t (.agg cs.toArray)).run P w = .ok () w
    rw [Instr.checkKey]
    simp only [Sem.run_bind,run_underlying hu,Result.andThen_ok]
    simp only [Std.Legacy.Range.forIn_eq_forIn_range',Std.Legacy.Range.size,Nat.sub_zero,Nat.add_one_sub_one,Nat.div_one]
    rw [JQu (List.range' 0 n') (P:=P) (w:=w) fun j hj=>?_]
    ·rfl
    have hj':j < n':=by
     have:=List.mem_range'.1 hj
     omega
    have he':=JoW he
    have hp:=JlU (P:=P) (w:=w) (t:=e) (agg:=false) (sz:=1) (off:=j * 1) (cs:=cs.toArray) (by simp [tagg,he']) hs (fun _=>rfl) (by simp; omega)
    simp only [Sem.run_bind,JP hs,Result.andThen_ok,hp]
    rw [Instr.checkKey]
    simp [run_underlying he']
   ·cases hc
 | .st ss,t,a,b,cs,r,D,hc,h,ha,hD=>by
   obtain ⟨D,rfl⟩:∃ D',D = D' + 1:=⟨D - 1,by simp only [Sh.dep] at hD; omega⟩
   simp only [Sh.dep] at hD
   simp only [chkSh,Bool.and_eq_true,beq_iff_eq] at hc
   obtain ⟨hc,_⟩:=hc
   split at hc
   ·rename_i fs hu
    simp only [Bool.and_eq_true,Bool.not_eq_true'] at hc
    obtain ⟨hst,hfs⟩:=hc
    simp only [cmpA] at h
    split at h
    ·rename_i xs ys
     simp only [V] at ha
     show (Instr.checkKey em (D + 1) t (.agg cs.toArray)).run P w = .ok () w
     rw [Instr.checkKey]
     simp only [Sem.run_bind,run_underlying hu,Result.andThen_ok]
     rw [← Array.forIn_toList]
     rw [JQu fs.toList (P:=P) (w:=w) (checkShs em ss 0 fs.toList xs ys cs.toArray r D hfs h ha (by omega))]
     rfl
    ·cases h
   ·cases hc
theorem checkShs {P:Program} {C:Ctx} {w:World} (em:Bool) : ∀ (ss:List Sh) (off:Nat) (fs:List Field) (xs ys:List AV) (cs:Array Value) (r:Bool) (D:Nat),chkShs P ss off fs = true → cmpL ss xs ys = some r → Vs C xs (cs.toList.drop off) → Sh.deps ss ≤ D →
 ∀ f ∈ fs,(if f.name ≠ "_" then (do
  let x ← part f.type cs f.offset
  Instr.checkKey em D f.type x
  pure (ForInStep.yield PUnit.unit)) else (pure (ForInStep.yield PUnit.unit)):Sem (ForInStep PUnit)).run P w = .ok (.yield ⟨⟩) w
 | [],off,fs,xs,ys,cs,r,D,hc,h,ha,hD=>by
   simp only [chkShs,List.isEmpty_iff] at hc
   subst hc
   intro f hf
   cases hf
 | s :: ss,off,fs,xs,ys,cs,r,D,hc,h,ha,hD=>by
   simp only [Sh.deps] at hD
   simp only [chkShs] at hc
   split at hc
   ·cases hc
   ·rename_i f fs
    simp only [Bool.and_eq_true,bne_iff_ne,beq_iff_eq,decide_eq_true_eq] at hc
    obtain ⟨⟨⟨⟨hn,ho⟩,hpos⟩,h1⟩,h2⟩:=hc
    unfold cmpL at h
    split at h
    ·rename_i e; cases e
    ·rename_i s' ss' x xs y ys e
     obtain ⟨rfl,rfl⟩:=List.cons.inj e
     simp only [Option.bind_eq_some_iff,Option.map_eq_some_iff] at h
     obtain ⟨r1,hr1,r2,hr2,rfl⟩:=h
     simp only [Vs] at ha
     obtain ⟨c1,c2,ec,hx,hxs⟩:=ha
     obtain ⟨hsz,hag⟩:=JGA h1
     have lx:=Jum hr1
     have lc:c1.length = Sh.sz s:=by rw [Jbn _ _ hx,lx.1]
     have f1:off + Sh.sz s ≤ cs.size:=by
      have:=congrArg List.length ec
      simp only [List.length_drop,List.length_append,Array.length_toList] at this
      omega
     have g1:(cs.toList.drop off).take (Sh.sz s) = c1:=by rw [ec,← lc]; simp
     have k1:cs.toList.drop (off + Sh.sz s) = c2:=by rw [← List.drop_drop,ec,← lc]; simp
     have p1:(part f.type cs f.offset).run P w = .ok (valOf s.agg c1) w:=by
      rw [ho]
      have:=JlU (P:=P) (w:=w) (off:=off) (cs:=cs) hag hsz (fun h=>Sh.sz_one h) f1
      rwa [g1] at this
     have q:=checkSh (w:=w) em s f.type x y c1 r1 D h1 hr1 hx (by omega)
     have qs:=checkShs (w:=w) em ss (off + Sh.sz s) fs xs ys cs r2 D h2 hr2 (by rw [k1]; exact hxs) (by omega)
     intro f' hf
     rcases List.mem_cons.1 hf with rfl | hf
     ·simp only [hn,ne_eq,not_false_eq_true,if_true,Sem.run_bind,p1,q,Result.andThen_ok,Sem.run_pure]
     ·exact qs f' hf
    ·cases h
end
def EqTo (C:Ctx) (sh:Sh) (k:AV) (r:Bool) (p:List Value × List Value × Nat) : Prop := ∃ k',cmpA sh k k' = some r ∧ V C k' p.1
theorem JAv {C:Ctx} {sh:Sh} {k:AV} : ∀ {es:List AV} {ps:List (List Value × List Value × Nat)},findA sh k es = some none → es.length = ps.length → (∀ (i:Nat) (e:AV) (p:List Value × List Value × Nat),es[i]? = some e → ps[i]? = some p → V C (entK e) p.1) →
 ∀ p ∈ ps,EqTo C sh k false p
 | [],ps,_,hl,_=>by
   obtain rfl:=List.eq_nil_of_length_eq_zero hl.symm
   intro p hp
   cases hp
 | e :: es,[],_,hl,_=>by simp at hl
 | e :: es,p :: ps,h,hl,hv=>by
   simp only [findA,Option.bind_eq_some_iff] at h
   obtain ⟨r,hr,h⟩:=h
   cases r with
   | true=>simp at h
   | false =>
     simp only [Bool.false_eq_true,if_false,Option.map_eq_some_iff] at h
     obtain ⟨q,hq,h⟩:=h
     cases q with
     | some j=>simp at h
     | none =>
       intro p' hp'
       rcases List.mem_cons.1 hp' with rfl | hp'
       ·exact ⟨_,hr,hv 0 e _ rfl rfl⟩
       ·exact JAv hq (by simpa using hl) (fun i e' q h1 h2=>hv (i + 1) e' q (by simpa using h1) (by simpa using h2)) p' hp'
theorem JAw {C:Ctx} {sh:Sh} {k:AV} : ∀ {es:List AV} {ps:List (List Value × List Value × Nat)} {j:Nat},findA sh k es = some (some j) → es.length = ps.length → (∀ (i:Nat) (e:AV) (p:List Value × List Value × Nat),es[i]? = some e → ps[i]? = some p → V C (entK e) p.1) →
 ∃ e p,es[j]? = some e ∧ ps[j]? = some p ∧ cmpA sh k (entK e) = some true ∧ ∀ q ∈ ps.take j,EqTo C sh k false q
 | [],ps,j,h,hl,_=>by simp [findA] at h
 | e :: es,[],_,_,hl,_=>by simp at hl
 | e :: es,p :: ps,j,h,hl,hv=>by
   simp only [findA,Option.bind_eq_some_iff] at h
   obtain ⟨r,hr,h⟩:=h
   cases r with
   | true =>
     simp only [if_true,Option.some.injEq] at h
     subst h
     exact ⟨e,p,rfl,rfl,hr,fun q hq=>by simp at hq⟩
   | false =>
     simp only [Bool.false_eq_true,if_false,Option.map_eq_some_iff] at h
     obtain ⟨q,hq,h⟩:=h
     cases q with
     | none=>simp at h
     | some i =>
       simp only [Option.map_some,Option.some.injEq] at h
       obtain ⟨_,rfl,rfl⟩:=(by simpa using h:∃ a,i = a ∧ a + 1 = j)
       obtain ⟨e',p',h1,h2,h3,h4⟩:=JAw hq (by simpa using hl) (fun i e' q h1 h2=>hv (i + 1) e' q (by simpa using h1) (by simpa using h2))
       refine ⟨e',p',by simpa using h1,by simpa using h2,h3,fun q hq=>?_⟩
       rw [List.take_succ_cons] at hq
       rcases List.mem_cons.1 hq with rfl | hq
       ·exact ⟨_,hr,hv 0 e _ rfl rfl⟩
       ·exact h4 q hq
section
variable {P:Program} {C:Ctx} {w:World} {sh:Sh} {kt:TypeId} {k:AV} {kc:List Value} {va:Bool}
theorem JOv (hsh:chkSh P sh kt = true) (hd:Sh.dep sh ≤ 1000) (hk:V C k kc) : ∀ (ps:List (List Value × List Value × Nat)) (i:Nat),(∀ p ∈ ps,EqTo C sh k false p) →
 (Instr.findAsking kt (valOf sh.agg kc) (ps.map (entOf sh.agg va)) i).run P w = .ok none w
 | [],i,_=>by simp [Instr.findAsking]
 | p :: ps,i,h=>by
   obtain ⟨k',h1,h2⟩:=h p List.mem_cons_self
   have heq:(Op.equal kt (valOf sh.agg kc) (valOf sh.agg p.1)).run P w = .ok false w:=eqSh (P:=P) (w:=w) sh kt k k' kc p.1 false 10000 hsh h1 hk h2 (by omega)
   simp only [List.map_cons,Instr.findAsking,entOf,Sem.run_bind,heq,Result.andThen_ok]
   exact JOv hsh hd hk ps (i + 1) (fun q hq=>h q (List.mem_cons_of_mem _ hq))
theorem JOj (hsh:chkSh P sh kt = true) (hd:Sh.dep sh ≤ 1000) (hk:V C k kc) : ∀ (ps:List (List Value × List Value × Nat)) (i j:Nat) (p:List Value × List Value × Nat),ps[j]? = some p → EqTo C sh k true p → (∀ q ∈ ps.take j,EqTo C sh k false q) →
 (Instr.findAsking kt (valOf sh.agg kc) (ps.map (entOf sh.agg va)) i).run P w = .ok (some (i + j,valOf va p.2.1)) w
 | [],i,j,p,h,_,_=>by simp at h
 | q :: ps,i,0,p,h,ht,_=>by
   simp only [List.getElem?_cons_zero,Option.some.injEq] at h
   subst h
   obtain ⟨k',h1,h2⟩:=ht
   have heq:(Op.equal kt (valOf sh.agg kc) (valOf sh.agg q.1)).run P w = .ok true w:=eqSh (P:=P) (w:=w) sh kt k k' kc q.1 true 10000 hsh h1 hk h2 (by omega)
   simp only [List.map_cons,Instr.findAsking,entOf,Sem.run_bind,heq,Result.andThen_ok]
   simp
 | q :: ps,i,j + 1,p,h,ht,hf=>by
   rw [List.take_succ_cons] at hf
   obtain ⟨k',h1,h2⟩:=hf q List.mem_cons_self
   have heq:(Op.equal kt (valOf sh.agg kc) (valOf sh.agg q.1)).run P w = .ok false w:=eqSh (P:=P) (w:=w) sh kt k k' kc q.1 false 10000 hsh h1 hk h2 (by omega)
   simp only [List.map_cons,Instr.findAsking,entOf,Sem.run_bind,heq,Result.andThen_ok]
   have:=JOj hsh hd hk ps (i + 1) j p (by simpa using h) ht (fun x hx=>hf x (List.mem_cons_of_mem _ hx))
   rw [show i + (j + 1) = i + 1 + j by omega]
   exact this
theorem JnL {C:Ctx} {sh:Sh} {t:TypeId} {d:TypeDesc} (hu:P.underlying t = some d) (hsh:chkSh P sh t = true) {a b:AV} {cs ds:List Value} {r:Bool} (h:cmpA sh a b = some r) (ha:V C a cs) (hb:V C b ds) :
 Instr.sameNow d (valOf sh.agg cs) (valOf sh.agg ds) = if sh.agg = true then none else some r:=by
 cases sh with
 | int k =>
   simp only [chkSh,Bool.and_eq_true,beq_iff_eq] at hsh
   rw [JoW hsh.1] at hu
   obtain rfl:=Option.some.inj hu
   simp only [cmpA] at h
   split at h
   ·split at h
    ·obtain rfl:=V_one ha
     obtain rfl:=V_one hb
     rename_i hk
     obtain ⟨rfl,rfl⟩:=hk
     rw [← Option.some.inj h]
     simp [Instr.sameNow,valOf,Sh.agg]
    ·cases h
   ·cases h
 | str =>
   simp only [chkSh,Bool.and_eq_true,beq_iff_eq] at hsh
   obtain ⟨hsh,_⟩:=hsh
   split at hsh
   ·rename_i hu2
    rw [hu2] at hu
    obtain rfl:=Option.some.inj hu
    simp only [cmpA] at h
    split at h
    ·obtain rfl:=V_one ha
     obtain rfl:=V_one hb
     rename_i x y
     rw [← Option.some.inj h]
     simp only [Instr.sameNow,valOf,Sh.agg,Bool.false_eq_true,if_false,List.headD_cons,Option.some.injEq]
     rw [Bool.eq_iff_iff,MapKept.bytes_beq,beq_iff_eq,ByteArray.toList_eq,ByteArray.toList_eq]
     exact ⟨fun e=>by rw [e],fun e=>WideShapes.bytes_inj e⟩
    ·cases h
   ·cases hsh
 | bool =>
   simp only [chkSh,Bool.and_eq_true,beq_iff_eq] at hsh
   obtain ⟨hsh,_⟩:=hsh
   split at hsh
   ·rename_i hu2
    rw [hu2] at hu
    obtain rfl:=Option.some.inj hu
    simp only [cmpA] at h
    split at h
    ·obtain rfl:=V_one ha
     obtain rfl:=V_one hb
     rw [← Option.some.inj h]
     simp [Instr.sameNow,valOf,Sh.agg]
    ·cases h
   ·cases hsh
 | ints k n =>
   simp only [chkSh,Bool.and_eq_true,beq_iff_eq] at hsh
   obtain ⟨hsh,_⟩:=hsh
   split at hsh
   ·rename_i hu2
    rw [hu2] at hu
    obtain rfl:=Option.some.inj hu
    simp [Instr.sameNow,valOf,Sh.agg]
   ·cases hsh
 | st ss =>
   simp only [chkSh,Bool.and_eq_true,beq_iff_eq] at hsh
   obtain ⟨hsh,_⟩:=hsh
   split at hsh
   ·rename_i hu2
    rw [hu2] at hu
    obtain rfl:=Option.some.inj hu
    simp [Instr.sameNow,valOf,Sh.agg]
   ·cases hsh
theorem JV6 {d:TypeDesc} (hu:P.underlying kt = some d) (hsh:chkSh P sh kt = true) (hk:V C k kc) (hag:sh.agg = false) : ∀ (ps:List (List Value × List Value × Nat)) (i:Nat),(∀ p ∈ ps,EqTo C sh k false p) →
 Instr.findNow d (valOf sh.agg kc) (ps.map (entOf sh.agg va)) i = some none
 | [],i,_=>rfl
 | p :: ps,i,h=>by
   obtain ⟨k',h1,h2⟩:=h p List.mem_cons_self
   have heq:=JnL hu hsh h1 hk h2
   rw [hag] at heq
   simp only [Bool.false_eq_true,if_false] at heq
   have ih:=JV6 hu hsh hk hag ps (i + 1) (fun q hq=>h q (List.mem_cons_of_mem _ hq))
   rw [hag] at ih ⊢
   simp only [List.map_cons,Instr.findNow,entOf,heq]
   exact ih
theorem JWm {d:TypeDesc} (hu:P.underlying kt = some d) (hsh:chkSh P sh kt = true) (hk:V C k kc) (hag:sh.agg = false) : ∀ (ps:List (List Value × List Value × Nat)) (i j:Nat) (p:List Value × List Value × Nat),ps[j]? = some p → EqTo C sh k true p → (∀ q ∈ ps.take j,EqTo C sh k false q) →
 Instr.findNow d (valOf sh.agg kc) (ps.map (entOf sh.agg va)) i = some (some (i + j,valOf va p.2.1))
 | [],i,j,p,h,_,_=>by simp at h
 | q :: ps,i,0,p,h,ht,_=>by
   simp only [List.getElem?_cons_zero,Option.some.injEq] at h
   subst h
   obtain ⟨k',h1,h2⟩:=ht
   have heq:=JnL hu hsh h1 hk h2
   rw [hag] at heq
   simp only [Bool.false_eq_true,if_false] at heq
   rw [hag]
   simp only [List.map_cons,Instr.findNow,entOf,heq]
   rfl
 | q :: ps,i,j + 1,p,h,ht,hf=>by
   rw [List.take_succ_cons] at hf
   obtain ⟨k',h1,h2⟩:=hf q List.mem_cons_self
   have heq:=JnL hu hsh h1 hk h2
   rw [hag] at heq
   simp only [Bool.false_eq_true,if_false] at heq
   have ih:=JWm hu hsh hk hag ps (i + 1) j p (by simpa using h) ht (fun x hx=>hf x (List.mem_cons_of_mem _ hx))
   rw [hag] at ih ⊢
   simp only [List.map_cons,Instr.findNow,entOf,heq]
   rw [show i + (j + 1) = i + 1 + j by omega]
   exact ih
theorem Sh.und {P:Program} {s:Sh} {t:TypeId} (h:chkSh P s t = true) : ∃ d,P.underlying t = some d := by
 have:=(JGA h).2
 unfold tagg at this
 cases hq:P.underlying t with
 | none=>rw [hq] at this; cases this
 | some d=>exact ⟨d,rfl⟩
theorem JvL (hsh:chkSh P sh kt = true) (hd:Sh.dep sh ≤ 1000) (hk:V C k kc) (ps:List (List Value × List Value × Nat)) (h:∀ p ∈ ps,EqTo C sh k false p) :
 (Instr.findKey kt (valOf sh.agg kc) (ps.map (entOf sh.agg va))).run P w = .ok none w:=by
 obtain ⟨d,hu⟩:=Sh.und hsh
 unfold Instr.findKey
 simp only [Sem.run_bind,run_underlying hu,Result.andThen_ok]
 by_cases hag:sh.agg = false
 ·rw [JV6 hu hsh hk hag ps 0 h]
  rfl
 ·cases ps with
  | nil=>simp [Instr.findNow]
  | cons p ps =>
    obtain ⟨k',h1,h2⟩:=h p List.mem_cons_self
    have heq:=JnL hu hsh h1 hk h2
    have hag':sh.agg = true:=by simpa using hag
    rw [if_pos hag'] at heq
    have hnow:Instr.findNow d (valOf sh.agg kc) ((p :: ps).map (entOf sh.agg va)) 0 = none:=by
     simp only [List.map_cons,Instr.findNow,entOf,heq]
    rw [hnow]
    exact JOv hsh hd hk (p :: ps) 0 h
theorem Jvk (hsh:chkSh P sh kt = true) (hd:Sh.dep sh ≤ 1000) (hk:V C k kc) {ps:List (List Value × List Value × Nat)} {j:Nat} {p:List Value × List Value × Nat} (hj:ps[j]? = some p) (ht:EqTo C sh k true p) (h:∀ q ∈ ps.take j,EqTo C sh k false q) :
 (Instr.findKey kt (valOf sh.agg kc) (ps.map (entOf sh.agg va))).run P w = .ok (some (j,valOf va p.2.1)) w:=by
 obtain ⟨d,hu⟩:=Sh.und hsh
 unfold Instr.findKey
 simp only [Sem.run_bind,run_underlying hu,Result.andThen_ok]
 by_cases hag:sh.agg = false
 ·rw [JWm hu hsh hk hag ps 0 j p hj ht h,Nat.zero_add]
  rfl
 ·cases ps with
  | nil=>simp at hj
  | cons q ps =>
    have hq:∃ r,EqTo C sh k r q:=by
     cases j with
     | zero =>
       simp only [List.getElem?_cons_zero,Option.some.injEq] at hj
       exact ⟨true,hj ▸ ht⟩
     | succ j=>exact ⟨false,h q (by rw [List.take_succ_cons]; exact List.mem_cons_self)⟩
    obtain ⟨r,k',h1,h2⟩:=hq
    have heq:=JnL hu hsh h1 hk h2
    have hag':sh.agg = true:=by simpa using hag
    rw [if_pos hag'] at heq
    have hnow:Instr.findNow d (valOf sh.agg kc) ((q :: ps).map (entOf sh.agg va)) 0 = none:=by
     simp only [List.map_cons,Instr.findNow,entOf,heq]
    rw [hnow]
    have:=JOj (w:=w) (va:=va) hsh hd hk (q :: ps) 0 j p hj ht h
    rwa [Nat.zero_add] at this
end
section
variable {P:Program} {w0:World} {Ws I0:Nat → Prop} {C:Ctx}
theorem Jmv (hw:WR w0 Ws I0 C) {l g:Nat} {x:Value} {ka va:Bool} {ks vs:Nat} {es:List AV} {cv:Value} (hp:SV C (.oref l g true) x) (hm:C.m l = some (.ob g (.map ka ks va vs) (.node [.node es,.v cv]))) :
 ∃ (r:Nat) (mes:Array MapEntry) (clock:Nat) (ps:List (List Value × List Value × Nat)),x = .map (some r) ∧ C.blk l = some r ∧ C.w.heap[r]? = some (.map mes clock) ∧ mes.toList = ps.map (entOf ka va) ∧ (∀ p ∈ ps,p.1.length = ks ∧ p.2.1.length = vs) ∧ Vs C es (ps.flatMap entCells) ∧ cv = .int .i64 (clock:Nat):=by
 have hp':V C (.oref l g true) [x]:=hp
 simp only [V] at hp'
 obtain ⟨r,e,_,k⟩:=hp'
 obtain rfl:=(List.cons.inj e).1
 have hb:=k _ _ hm
 obtain ⟨b,o,cs,h1,h2,h3,h4⟩:=hw.locs l _ hm
 rw [hb] at h1
 obtain rfl:=Option.some.inj h1
 cases o with
 | map mes clock =>
   obtain ⟨ps,k1,k2,rfl⟩:=h3
   simp only [V,Vs] at h4
   obtain ⟨c1,c2,e1,k3,c3,c4,rfl,⟨rfl,_⟩,rfl⟩:=h4
   obtain ⟨e2,e3⟩:=List.append_inj' e1 (by simp)
   subst e2
   exact ⟨r,mes,clock,ps,rfl,hb,h2,k1,k2,k3,by simpa using e3.symm⟩
 | _=>exact h3.elim
theorem JOH {es:List AV} {ks vs:Nat} {ps:List (List Value × List Value × Nat)} (ha:allEnt ks vs es = true) (hl:∀ p ∈ ps,p.1.length = ks ∧ p.2.1.length = vs) (hv:Vs C es (ps.flatMap entCells)) :
 es.length = ps.length ∧ ∀ (i:Nat) (e:AV) (p:List Value × List Value × Nat),es[i]? = some e → ps[i]? = some p → EntV C e p:=by
 obtain ⟨h1,h2⟩:=Job ha hl hv
 refine ⟨h1,fun i e p h3 h4=>?_⟩
 obtain ⟨h5,h6⟩:=h2 i e p h3 h4
 exact J4L h5 (hl p (List.mem_of_getElem? h4)).1 h6
theorem SV.asVal {a:AV} {x:Value} (h:SV C a x) (hs:a.solid = true) : ∃ cs,x = valOf a.isAgg cs ∧ V C a cs ∧ (a.isAgg = false → cs.length = 1) := by
 cases hag:a.isAgg with
 | true =>
   obtain ⟨cs,rfl,hv⟩:=JNs h hag
   exact ⟨cs.toList,by simp [valOf],hv,fun h=>by cases h⟩
 | false=>exact ⟨[x],by simp [valOf],h.oneOf hs hag,fun _=>rfl⟩
theorem JKX {sh:Sh} {x y:AV} {r:Bool} (h:cmpA sh x y = some r) : x.solid = true ∧ x.isAgg = sh.agg := by
 cases sh <;> simp only [cmpA] at h <;> split at h <;> first | (cases h; done) | exact ⟨rfl,rfl⟩
def lookA (m:Nat → Option Loc) (sh:Sh) (l g:Nat) (k:AV) : Option (Option AV) :=
 match m l with
 | some (.ob g' (.map ka ks va vs) (.node [.node es,.v _])) =>
   if g' = g ∧ ka = sh.agg ∧ ks = Sh.sz sh ∧ cmpA sh k k = some true ∧ allEnt ks vs es = true ∧ aggOk va vs = true then
    (findA sh k es).bind fun r=>match r with
     | some i=>(es[i]?).bind fun e=>if (entV e).isAgg = va then some (some (entV e)) else none
     | none=>some none
   else none
 | _=>none
def LookOk (P:Program) (C:Ctx) (t et:TypeId) (x y:Value) (ok:Bool) : Option AV → Prop
 | some v=>∃ u,(Instr.lookup t x y ok).run P C.w = .ok (if ok then .tuple #[u,.bool true] else u) C.w ∧ SV1 C v u
 | none=>∀ z,(zeroValue et).run P C.w = .ok z C.w → (Instr.lookup t x y ok).run P C.w = .ok (if ok then .tuple #[z,.bool false] else z) C.w
theorem J0M (hw:WR w0 Ws I0 C) {sh:Sh} {t kt et:TypeId} {l g:Nat} {k:AV} {x y:Value} (ht:P.underlying t = some (.map kt et)) (hsh:chkSh P sh kt = true) (hd:Sh.dep sh ≤ 1000) (hp:SV C (.oref l g true) x) (hk:SV C k y) {r:Option AV} (h:lookA C.m sh l g k = some r) (ok:Bool) :
 LookOk P C t et x y ok r:=by
 unfold lookA at h
 split at h <;> first | (cases h; done) | skip
 rename_i g' ka ks va vs es cv hm
 split at h <;> first | (cases h; done) | skip
 rename_i hc
 obtain ⟨rfl,rfl,rfl,hkk,hall,hag⟩:=hc
 obtain ⟨rr,mes,clock,ps,rfl,hb,hheap,hlist,hlens,hvs,rfl⟩:=Jmv hw hp hm
 obtain ⟨hlen,hent⟩:=JOH hall hlens hvs
 obtain ⟨hso,hka⟩:=JKX hkk
 obtain ⟨kc,rfl,hkv,_⟩:=hk.asVal hso
 rw [hka]
 have hcheck:(Instr.checkKey mes.isEmpty 10000 kt (valOf sh.agg kc)).run P C.w = .ok () C.w:=checkSh (w:=C.w) mes.isEmpty sh kt k k kc true 10000 hsh hkk hkv (by omega)
 simp only [Option.bind_eq_some_iff] at h
 obtain ⟨q,hq,h⟩:=h
 have hobj:(getObj rr).run P C.w = .ok (.map mes clock) C.w:=MapKept.run_getObj_map hheap
 cases q with
 | none =>
   obtain rfl:=Option.some.inj h
   have hfind:=JvL (P:=P) (w:=C.w) (va:=va) hsh hd hkv ps (JAv hq hlen (fun i e p h1 h2=>(hent i e p h1 h2).k))
   rw [← hlist] at hfind
   intro z hz
   simp only [Instr.lookup,Sem.run_bind,run_underlying ht,hobj,Result.andThen_ok,hcheck,hfind,hz,Sem.run_pure]
 | some i =>
   simp only [Option.bind_eq_some_iff] at h
   obtain ⟨e,he,h⟩:=h
   split at h <;> first | (cases h; done) | skip
   rename_i hva
   obtain rfl:=Option.some.inj h
   obtain ⟨e',p,h1,h2,h3,h4⟩:=JAw hq hlen (fun i e p h1 h2=>(hent i e p h1 h2).k)
   rw [he] at h1
   obtain rfl:=Option.some.inj h1
   have hev:=hent i e p he h2
   have hfind:=Jvk (P:=P) (w:=C.w) (va:=va) hsh hd hkv h2 ⟨_,h3,hev.k⟩ h4
   rw [← hlist] at hfind
   refine ⟨valOf va p.2.1,?_,?_⟩
   ·simp only [Instr.lookup,Sem.run_bind,run_underlying ht,hobj,Result.andThen_ok,hcheck,hfind,Sem.run_pure]
   ·have hsv:=JAk hev.v hva (fun e=>by rw [(hlens p (List.mem_of_getElem? h2)).2]; exact JmG hag e)
    have hnt:∀ as,entV e ≠ .tup as:=fun as e2=>by
     have:=hev.v
     rw [e2] at this
     simp [V] at this
    revert hsv hnt
    generalize entV e = v
    intro hsv hnt
    cases v <;> first | exact hsv | exact absurd rfl (hnt _)
end
def putM (m:Nat → Option Loc) (sh:Sh) (l g:Nat) (k v:AV) : Option (Nat × Loc) :=
 match m l with
 | some (.ob g' (.map ka ks va vs) (.node [.node es,.v (.int .i64 c)])) =>
   if g' = g ∧ ka = sh.agg ∧ ks = Sh.sz sh ∧ cmpA sh k k = some true ∧ allEnt ks vs es = true ∧ v.isAgg = va ∧ v.size = vs ∧ v.solid = true then
    (findA sh k es).bind fun r=>match r with
     | some i=>(es[i]?).map fun e=>(l,.ob g (.map ka ks va vs) (.node [.node (es.set i (entS k v (entB e))),.v (.int .i64 c)]))
     | none=>some (l,.ob g (.map ka ks va vs) (.node [.node (es ++ [entA k v c]),.v (.int .i64 (c + 1))]))
   else none
 | _=>none
def delM (m:Nat → Option Loc) (sh:Sh) (l g:Nat) (k:AV) : Option (Nat × Loc) :=
 match m l with
 | some (.ob g' (.map ka ks va vs) (.node [.node es,.v cv])) =>
   if g' = g ∧ ka = sh.agg ∧ ks = Sh.sz sh ∧ cmpA sh k k = some true ∧ allEnt ks vs es = true then
    (findA sh k es).map fun r=>match r with
     | some i=>(l,.ob g (.map ka ks va vs) (.node [.node (es.eraseIdx i),.v cv]))
     | none=>(l,.ob g (.map ka ks va vs) (.node [.node es,.v cv]))
   else none
 | _=>none
def lenM (m:Nat → Option Loc) (l g:Nat) : Option Nat :=
 match m l with
 | some (.ob g' (.map _ ks _ vs) (.node [.node es,.v _]))=>if g' = g ∧ allEnt ks vs es = true then some es.length else none
 | _=>none
def clearM (m:Nat → Option Loc) (l g:Nat) : Option (Nat × Loc) :=
 match m l with
 | some (.ob g' (.map ka ks va vs) (.node [.node _,.v cv]))=>if g' = g then some (l,.ob g (.map ka ks va vs) (.node [.node [],.v cv])) else none
 | _=>none
def rangeM (m:Nat → Option Loc) (l g:Nat) : Option AV :=
 match m l with
 | some (.ob g' (.map _ _ _ _) (.node [.node _,.v cv]))=>if g' = g then some (.node [.oref l g true,.v cv,.v cv,.node []]) else none
 | _=>none
section
variable {P:Program} {w0:World} {Ws I0:Nat → Prop} {C:Ctx}
theorem JHh {w:World} {r:Nat} {o o':Obj} (h:w.heap[r]? = some o) : (ChangeMaps.setBlock w r o').heap[r]? = some o' := by
 have:=(Array.getElem?_eq_some_iff.1 h).1
 simp [ChangeMaps.setBlock,this]
theorem JrU (w:World) (r:Nat) (o:Obj) : w.grownBy (ChangeMaps.setBlock w r o) (some r) :=
 ⟨rfl,rfl,rfl,by simp [ChangeMaps.setBlock],fun k _ hn=>by
  have hk:r ≠ k:=fun e=>hn (by rw [e])
  simp [ChangeMaps.setBlock,hk]⟩
theorem JHC (hw:WR w0 Ws I0 C) {l g r:Nat} {ka va:Bool} {ks vs:Nat} {x0:AV} {mes:Array MapEntry} {clock:Nat} (hm:C.m l = some (.ob g (.map ka ks va vs) x0)) (hb:C.blk l = some r) (hheap:C.w.heap[r]? = some (.map mes clock))
 {mes':Array MapEntry} {clock':Nat} {es':List AV} {ps':List (List Value × List Value × Nat)} (h1:mes'.toList = ps'.map (entOf ka va)) (h2:∀ p ∈ ps',p.1.length = ks ∧ p.2.1.length = vs) (h3:Vs C es' (ps'.flatMap entCells)) :
 C.Le { C with w:=ChangeMaps.setBlock C.w r (.map mes' clock'),m:=upd C.m l (some (.ob g (.map ka ks va vs) (.node [.node es',.v (.int .i64 (clock':Nat))]))) } ∧
  WR w0 Ws I0 { C with w:=ChangeMaps.setBlock C.w r (.map mes' clock'),m:=upd C.m l (some (.ob g (.map ka ks va vs) (.node [.node es',.v (.int .i64 (clock':Nat))]))) }:=by
 have hput:=hw.putO (c':=.ob g (.map ka ks va vs) (.node [.node es',.v (.int .i64 (clock':Nat))])) hm hb hheap (fun _ _ _ e=>by cases e) (JrU C.w r (.map mes' clock')) (by simp [Loc.same])
 refine ⟨hput.1,hput.2 ⟨r,.map mes' clock',_,hb,JHh hheap,⟨ps',h1,h2,rfl⟩,?_⟩⟩
 simp only [V,Vs]
 exact ⟨_,[.int .i64 (clock':Nat)],rfl,JQy hput.1 _ _ h3,[.int .i64 (clock':Nat)],[],rfl,⟨rfl,rfl⟩,rfl⟩
theorem JUd (ka va:Bool) (ps:List (List Value × List Value × Nat)) (i:Nat) (p:List Value × List Value × Nat) : (ps.set i p).map (entOf ka va) = (ps.map (entOf ka va)).set i (entOf ka va p) := by
 rw [List.map_set]
theorem J3h (hw:WR w0 Ws I0 C) {sh:Sh} {t kt et:TypeId} {l g l':Nat} {c':Loc} {k v:AV} {x y u:Value} (ht:P.underlying t = some (.map kt et)) (hsh:chkSh P sh kt = true) (hd:Sh.dep sh ≤ 1000) (hp:SV C (.oref l g true) x) (hk:SV C k y) (hv:SV C v u) (h:putM C.m sh l g k v = some (l',c')) :
 ∃ w',(Instr.mapUpdate t x y u).run P C.w = .ok () w' ∧ C.Le { C with w:=w',m:=upd C.m l' (some c') } ∧ WR w0 Ws I0 { C with w:=w',m:=upd C.m l' (some c') }:=by
 unfold putM at h
 split at h <;> first | (cases h; done) | skip
 rename_i g' ka ks va vs es cv hm
 split at h <;> first | (cases h; done) | skip
 rename_i hc
 obtain ⟨rfl,rfl,rfl,hkk,hall,hva,hvs,hvso⟩:=hc
 obtain ⟨rr,mes,clock,ps,rfl,hb,hheap,hlist,hlens,hV,hcv⟩:=Jmv hw hp hm
 obtain ⟨_,rfl⟩:=(by simpa using hcv:True ∧ cv = (clock:Nat))
 obtain ⟨hlen,hsplit⟩:=Job hall hlens hV
 have hent:∀ (i:Nat) (e:AV) (p:List Value × List Value × Nat),es[i]? = some e → ps[i]? = some p → EntV C e p:=(JOH hall hlens hV).2
 obtain ⟨hso,hka⟩:=JKX hkk
 obtain ⟨kc,rfl,hkv,hk1⟩:=hk.asVal hso
 obtain ⟨vc,rfl,hvv,hv1⟩:=hv.asVal hvso
 rw [hka] at hk1
 rw [hka,hva]
 have hkl:kc.length = Sh.sz sh:=by rw [Jbn _ _ hkv,(Jum hkk).1]
 have hvl:vc.length = vs:=by rw [Jbn _ _ hvv,hvs]
 have hcheck:(Instr.checkKey false 10000 kt (valOf sh.agg kc)).run P C.w = .ok () C.w:=checkSh (w:=C.w) false sh kt k k kc true 10000 hsh hkk hkv (by omega)
 have hstay:(Instr.keyThatStays (valOf sh.agg kc) (valOf sh.agg kc)).run P C.w = .ok (valOf sh.agg kc) C.w:=JYs (JOe hkk hkv) hk1
 have hobj:(getObj rr).run P C.w = .ok (.map mes clock) C.w:=MapKept.run_getObj_map hheap
 simp only [Option.bind_eq_some_iff] at h
 obtain ⟨q,hq,h⟩:=h
 cases q with
 | none =>
   simp only [Option.some.injEq,Prod.mk.injEq] at h
   obtain ⟨rfl,rfl⟩:=h
   have hfind:=JvL (P:=P) (w:=C.w) (va:=va) hsh hd hkv ps (JAv hq hlen (fun i e p h1 h2=>(hent i e p h1 h2).k))
   rw [← hlist] at hfind
   have hset:=MapKept.run_setObj_map (P:=P) (w:=C.w) (.map (mes.push ⟨valOf sh.agg kc,valOf va vc,clock⟩) (clock + 1)) hheap
   have hturn:=JHC hw hm hb hheap (mes':=mes.push ⟨valOf sh.agg kc,valOf va vc,clock⟩) (clock':=clock + 1) (es':=es ++ [.node [k,v,.v (.int .i64 (clock:Nat))]]) (ps':=ps ++ [(kc,vc,clock)])
    (by simp [hlist,entOf]) (fun p hp=>by
     rcases List.mem_append.1 hp with hp | hp
     ·exact hlens p hp
     ·rw [List.mem_singleton.1 hp]; exact ⟨hkl,hvl⟩)
    (by
     have hE:V C (.node [k,v,.v (.int .i64 (clock:Nat))]) (entCells (kc,vc,clock)):=V_ent hkv hvv (by simp [V,Value.oneCell'])
     refine JJg (by simp [hlen]) fun i e p h1 h2=>?_
     by_cases hi:i < es.length
     ·rw [List.getElem?_append_left hi] at h1
      rw [List.getElem?_append_left (by omega)] at h2
      exact (hsplit i e p h1 h2).2
     ·rw [List.getElem?_append_right (by omega)] at h1
      rw [List.getElem?_append_right (by omega)] at h2
      obtain ⟨hi1,rfl⟩:=List.getElem?_eq_some_iff.1 h1
      obtain ⟨hi2,rfl⟩:=List.getElem?_eq_some_iff.1 h2
      simp only [List.length_singleton] at hi1 hi2
      simp only [show i - es.length = 0 by omega,show i - ps.length = 0 by omega,List.getElem_cons_zero]
      exact hE)
   refine ⟨_,?_,hturn.1,hturn.2⟩
   simp only [Instr.mapUpdate,Sem.run_bind,run_underlying ht,hobj,Result.andThen_ok,hcheck,hfind,hset]
   rfl
 | some i =>
   simp only [Option.map_eq_some_iff,Prod.mk.injEq] at h
   obtain ⟨e,he,rfl,rfl⟩:=h
   obtain ⟨e',p,h1,h2,h3,h4⟩:=JAw hq hlen (fun i e p h1 h2=>(hent i e p h1 h2).k)
   rw [he] at h1
   obtain rfl:=Option.some.inj h1
   have hev:=hent i e p he h2
   have hkc:kc = p.1:=JYn h3 hkv hev.k
   have hfind:=Jvk (P:=P) (w:=C.w) (va:=va) hsh hd hkv h2 ⟨_,h3,hev.k⟩ h4
   rw [← hlist] at hfind
   have hmi:mes[i]? = some (entOf sh.agg va p):=by
    rw [← Array.getElem?_toList,hlist,List.getElem?_map,h2]
    rfl
   have hset:=MapKept.run_setObj_map (P:=P) (w:=C.w) (.map (mes.modify i fun e=>{ e with key:=valOf sh.agg kc,val:=valOf va vc }) clock) hheap
   have hturn:=JHC hw hm hb hheap (mes':=mes.modify i fun e=>{ e with key:=valOf sh.agg kc,val:=valOf va vc }) (clock':=clock) (es':=es.set i (.node [k,v,entB e])) (ps':=ps.set i (kc,vc,p.2.2))
    (by
     rw [Array.toList_modify,ChangeMaps.modify_eq_set _ _ _ (entOf sh.agg va p) (by rw [Array.getElem?_toList]; exact hmi),hlist,JUd]
     rfl) (fun q hq=>by
     rcases List.mem_or_eq_of_mem_set hq with hq | rfl
     ·exact hlens q hq
     ·exact ⟨hkl,hvl⟩)
    (by
     have hE:V C (.node [k,v,entB e]) (entCells (kc,vc,p.2.2)):=V_ent hkv hvv hev.b
     refine JJg (by simp [hlen]) fun j e1 p1 h5 h6=>?_
     by_cases hj:i = j
     ·subst hj
      have hil:=(List.getElem?_eq_some_iff.1 he).1
      rw [List.getElem?_set_self hil] at h5
      rw [List.getElem?_set_self (by omega)] at h6
      obtain rfl:=Option.some.inj h5
      obtain rfl:=Option.some.inj h6
      exact hE
     ·rw [List.getElem?_set_ne hj] at h5 h6
      exact (hsplit j e1 p1 h5 h6).2)
   refine ⟨_,?_,hturn.1,hturn.2⟩
   have hold:((mes[i]?.map (·.key)).getD (valOf sh.agg kc)) = valOf sh.agg kc:=by rw [hmi,hkc]; rfl
   simp only [Instr.mapUpdate,Sem.run_bind,run_underlying ht,hobj,Result.andThen_ok,hcheck,hfind,hold,hstay,hset]
   rfl
end
section
variable {P:Program} {w0:World} {Ws I0:Nat → Prop} {C:Ctx}
theorem J3x (hw:WR w0 Ws I0 C) {sh:Sh} {t kt et ty:TypeId} {ats:Array TypeId} {l g l':Nat} {c':Loc} {k:AV} {x y:Value} (h0:ats[0]? = some t) (ht:P.underlying t = some (.map kt et)) (hsh:chkSh P sh kt = true) (hd:Sh.dep sh ≤ 1000) (hp:SV C (.oref l g true) x) (hk:SV C k y) (h:delM C.m sh l g k = some (l',c')) :
 ∃ w',(Builtin.delete_ ats ty #[x,y]).run P C.w = .ok (.tuple #[]) w' ∧ C.Le { C with w:=w',m:=upd C.m l' (some c') } ∧ WR w0 Ws I0 { C with w:=w',m:=upd C.m l' (some c') }:=by
 unfold delM at h
 split at h <;> first | (cases h; done) | skip
 rename_i g' ka ks va vs es cv hm
 split at h <;> first | (cases h; done) | skip
 rename_i hc
 obtain ⟨rfl,rfl,rfl,hkk,hall⟩:=hc
 obtain ⟨rr,mes,clock,ps,rfl,hb,hheap,hlist,hlens,hV,rfl⟩:=Jmv hw hp hm
 obtain ⟨hlen,hsplit⟩:=Job hall hlens hV
 have hent:∀ (i:Nat) (e:AV) (p:List Value × List Value × Nat),es[i]? = some e → ps[i]? = some p → EntV C e p:=(JOH hall hlens hV).2
 obtain ⟨hso,hka⟩:=JKX hkk
 obtain ⟨kc,rfl,hkv,hk1⟩:=hk.asVal hso
 rw [hka] at hk1
 rw [hka]
 have hcheck:(Instr.checkKey mes.isEmpty 10000 kt (valOf sh.agg kc)).run P C.w = .ok () C.w:=checkSh (w:=C.w) mes.isEmpty sh kt k k kc true 10000 hsh hkk hkv (by omega)
 have hobj:(getObj rr).run P C.w = .ok (.map mes clock) C.w:=MapKept.run_getObj_map hheap
 simp only [Option.map_eq_some_iff] at h
 obtain ⟨q,hq,h⟩:=h
 cases q with
 | none =>
   simp only [Prod.mk.injEq] at h
   obtain ⟨rfl,rfl⟩:=h
   have hfind:=JvL (P:=P) (w:=C.w) (va:=va) hsh hd hkv ps (JAv hq hlen (fun i e p h1 h2=>(hent i e p h1 h2).k))
   rw [← hlist] at hfind
   have hset:=MapKept.run_setObj_map (P:=P) (w:=C.w) (.map mes clock) hheap
   have hturn:=JHC hw hm hb hheap (mes':=mes) (clock':=clock) (es':=es) (ps':=ps) hlist hlens hV
   refine ⟨_,?_,hturn.1,hturn.2⟩
   simp only [Builtin.delete_,h0,List.getElem?_toArray,List.getElem?_cons_zero,List.getElem?_cons_succ,Sem.run_bind,run_underlying ht,hobj,Result.andThen_ok,hcheck,hfind,hset]
   rfl
 | some i =>
   simp only [Prod.mk.injEq] at h
   obtain ⟨rfl,rfl⟩:=h
   obtain ⟨e',p,h1,h2,h3,h4⟩:=JAw hq hlen (fun i e p h1 h2=>(hent i e p h1 h2).k)
   have hev:=hent i e' p h1 h2
   have hfind:=Jvk (P:=P) (w:=C.w) (va:=va) hsh hd hkv h2 ⟨_,h3,hev.k⟩ h4
   rw [← hlist] at hfind
   have hset:=MapKept.run_setObj_map (P:=P) (w:=C.w) (.map (mes.eraseIdxIfInBounds i) clock) hheap
   have hil:=(List.getElem?_eq_some_iff.1 h2).1
   have hms:mes.size = ps.length:=by
    have:=congrArg List.length hlist
    simpa using this
   have hturn:=JHC hw hm hb hheap (mes':=mes.eraseIdxIfInBounds i) (clock':=clock) (es':=es.eraseIdx i) (ps':=ps.eraseIdx i)
    (by
     rw [Array.eraseIdxIfInBounds,dif_pos (by omega),Array.toList_eraseIdx,hlist,ChangeMaps.map_eraseIdx]) (fun q hq=>hlens q (List.mem_of_mem_eraseIdx hq))
    (by
     refine JJg (by rw [List.length_eraseIdx,List.length_eraseIdx,hlen]) fun j e1 p1 h5 h6=>?_
     rw [List.getElem?_eraseIdx] at h5 h6
     split at h5
     ·rename_i hj; rw [if_pos hj] at h6; exact (hsplit j e1 p1 h5 h6).2
     ·rename_i hj; rw [if_neg hj] at h6; exact (hsplit (j + 1) e1 p1 h5 h6).2)
   refine ⟨_,?_,hturn.1,hturn.2⟩
   simp only [Builtin.delete_,h0,List.getElem?_toArray,List.getElem?_cons_zero,List.getElem?_cons_succ,Sem.run_bind,run_underlying ht,hobj,Result.andThen_ok,hcheck,hfind,hset]
   rfl
theorem J02 (hw:WR w0 Ws I0 C) {t kt et ty:TypeId} {ats:Array TypeId} {l g n:Nat} {x:Value} (h0:ats[0]? = some t) (ht:P.underlying t = some (.map kt et)) (hp:SV C (.oref l g true) x) (h:lenM C.m l g = some n) :
 (Builtin.len_ ats ty #[x]).run P C.w = .ok (.int .i64 (n:Nat)) C.w:=by
 unfold lenM at h
 split at h <;> first | (cases h; done) | skip
 rename_i g' ka ks va vs es cv hm
 split at h <;> first | (cases h; done) | skip
 rename_i hc
 obtain ⟨rfl,hall⟩:=hc
 obtain rfl:=Option.some.inj h
 obtain ⟨rr,mes,clock,ps,rfl,hb,hheap,hlist,hlens,hV,rfl⟩:=Jmv hw hp hm
 obtain ⟨hlen,_⟩:=Job hall hlens hV
 have hms:mes.size = es.length:=by
  have:=congrArg List.length hlist
  rw [hlen]
  simpa using this
 have hobj:(getObj rr).run P C.w = .ok (.map mes clock) C.w:=MapKept.run_getObj_map hheap
 simp only [Builtin.len_,h0,List.getElem?_toArray,List.getElem?_cons_zero,Sem.run_bind,run_underlying ht,hobj,Result.andThen_ok,goInt,hms]
 rfl
theorem JWT (hw:WR w0 Ws I0 C) {t kt et ty:TypeId} {ats:Array TypeId} {l g l':Nat} {c':Loc} {x:Value} (h0:ats[0]? = some t) (ht:P.underlying t = some (.map kt et)) (hp:SV C (.oref l g true) x) (h:clearM C.m l g = some (l',c')) :
 ∃ w',(Builtin.clear_ ats ty #[x]).run P C.w = .ok (.tuple #[]) w' ∧ C.Le { C with w:=w',m:=upd C.m l' (some c') } ∧ WR w0 Ws I0 { C with w:=w',m:=upd C.m l' (some c') }:=by
 unfold clearM at h
 split at h <;> first | (cases h; done) | skip
 rename_i g' ka ks va vs es cv hm
 split at h <;> first | (cases h; done) | skip
 rename_i hc
 subst hc
 simp only [Option.some.injEq,Prod.mk.injEq] at h
 obtain ⟨rfl,rfl⟩:=h
 obtain ⟨rr,mes,clock,ps,rfl,hb,hheap,hlist,hlens,hV,rfl⟩:=Jmv hw hp hm
 have hobj:(getObj rr).run P C.w = .ok (.map mes clock) C.w:=MapKept.run_getObj_map hheap
 have hset:=MapKept.run_setObj_map (P:=P) (w:=C.w) (.map #[] clock) hheap
 have hturn:=JHC hw hm hb hheap (mes':=#[]) (clock':=clock) (es':=[]) (ps':=[]) rfl (fun p hp=>by cases hp) (by simp [Vs])
 refine ⟨_,?_,hturn.1,hturn.2⟩
 simp only [Builtin.clear_,h0,List.getElem?_toArray,List.getElem?_cons_zero,Sem.run_bind,run_underlying ht,hobj,Result.andThen_ok,hset]
 rfl
theorem WR.newOb (h:WR w0 Ws I0 C) {l g:Nat} {k:OK} {o:Obj} {a:AV} {cs:List Value} (mp:Bool) (hnew:¬ C.used g) (ho:ObV k o cs) (hv:V C a cs) :
 C.Le (newAt C (C.w.alloc o) l g (some C.w.heap.size) (.ob g k a)) ∧ WR w0 Ws I0 (newAt C (C.w.alloc o) l g (some C.w.heap.size) (.ob g k a)) ∧
  SV (newAt C (C.w.alloc o) l g (some C.w.heap.size) (.ob g k a)) (.oref l g mp) (objRef mp C.w.heap.size):=by
 have hr:=h.regen (l:=l) (g:=g) (c':=.ob g k a) (w':=C.w.alloc o) (row:=none) (B:=some C.w.heap.size) (World.grownBy_alloc C.w _ none) rfl hnew (.inl rfl)
  (.inr (.inr ⟨_,rfl,Nat.le_refl _,by simp⟩))
 refine ⟨hr.1,hr.2 ⟨C.w.heap.size,o,cs,by simp,heap_alloc_new C.w _,ho,JtJ hr.1 _ _ hv⟩,?_⟩
 show V _ (.oref l g mp) [_]
 simp only [V]
 exact ⟨_,rfl,.inr rfl,fun _ _ _=>by simp [newAt]⟩
theorem JZb (hw:WR w0 Ws I0 C) {t:TypeId} {l g:Nat} {ka va:Bool} {ks vs:Nat} (hnew:¬ C.used g) :
 ∃ y w',(Instr.makeMap t none).run P C.w = .ok y w' ∧ C.Le (newAt C w' l g (some C.w.heap.size) (.ob g (.map ka ks va vs) (.node [.node [],.v (.int .i64 0)]))) ∧ WR w0 Ws I0 (newAt C w' l g (some C.w.heap.size) (.ob g (.map ka ks va vs) (.node [.node [],.v (.int .i64 0)]))) ∧
  SV (newAt C w' l g (some C.w.heap.size) (.ob g (.map ka ks va vs) (.node [.node [],.v (.int .i64 0)]))) (.oref l g true) y:=by
 obtain ⟨k1,k2,k3⟩:=hw.newOb (l:=l) (g:=g) (k:=.map ka ks va vs) (o:=.map #[] 0) (a:=.node [.node [],.v (.int .i64 0)]) (cs:=[.int .i64 (0:Nat)]) true hnew ⟨[],rfl,(fun p hp=>by cases hp),rfl⟩ (by
  simp only [V,Vs]
  exact ⟨[],[.int .i64 (0:Nat)],rfl,rfl,[.int .i64 (0:Nat)],[],rfl,⟨rfl,rfl⟩,rfl⟩)
 exact ⟨_,_,rfl,k1,k2,k3⟩
theorem J0f (hw:WR w0 Ws I0 C) {t kt et:TypeId} {l g l' g':Nat} {a:AV} {x:Value} (ht:P.underlying t = some (.map kt et)) (hp:SV C (.oref l g true) x) (h:rangeM C.m l g = some a) (hnew:¬ C.used g') :
 ∃ y w',(Instr.range t x).run P C.w = .ok y w' ∧ C.Le (newAt C w' l' g' (some C.w.heap.size) (.ob g' .iter a)) ∧ WR w0 Ws I0 (newAt C w' l' g' (some C.w.heap.size) (.ob g' .iter a)) ∧
  SV (newAt C w' l' g' (some C.w.heap.size) (.ob g' .iter a)) (.oref l' g' false) y:=by
 unfold rangeM at h
 split at h <;> first | (cases h; done) | skip
 rename_i g2 ka ks va vs es cv hm
 split at h <;> first | (cases h; done) | skip
 rename_i hc
 subst hc
 obtain rfl:=Option.some.inj h
 obtain ⟨rr,mes,clock,ps,rfl,hb,hheap,hlist,hlens,hV,rfl⟩:=Jmv hw hp hm
 obtain ⟨k1,k2,k3⟩:=hw.newOb (l:=l') (g:=g') (k:=.iter) (o:=.mapIter (some rr) clock #[] clock) (a:=.node [.oref l g2 true,.v (.int .i64 (clock:Nat)),.v (.int .i64 (clock:Nat)),.node []])
  (cs:=[.map (some rr),.int .i64 (clock:Nat),.int .i64 (clock:Nat)]) false hnew rfl (by
   have hp':V C (.oref l g2 true) [.map (some rr)]:=hp
   simp only [V,Vs] at hp' ⊢
   exact ⟨[_],_,rfl,hp',[.int .i64 (clock:Nat)],_,rfl,⟨rfl,rfl⟩,[.int .i64 (clock:Nat)],[],rfl,⟨rfl,rfl⟩,[],[],rfl,rfl,rfl⟩)
 exact ⟨_,_,run_range_map C.w t kt et rr mes clock ht hheap,k1,k2,k3⟩
end
end
section
open Go
mutual
def closed : AV → Bool
 | .top=>true
 | .v _=>true
 | .node cs=>closeds cs
 | .arr _ xs=>closeds xs
 | .sl _ xs=>closeds xs
 | .iptr x=>closed x
 | _=>false
def closeds : List AV → Bool
 | []=>true
 | a :: as=>closed a && closeds as
end
inductive COpd where
 | t (n:Nat)
 | c (x:Value)
 | g (n:Nat)
def vbeq : Value → Value → Bool
 | .bool a,.bool b=>a == b
 | .int k a,.int k' b=>decide (k = k') && a == b
 | .string a,.string b=>a.data.toList == b.data.toList
 | .pointer none,.pointer none=>true
 | .slice none a b,.slice none c d=>a == c && b == d
 | .map none,.map none=>true
 | .nilFunc,.nilFunc=>true
 | .nilIface,.nilIface=>true
 | _,_=>false
theorem JYO {x y:Value} (h:vbeq x y = true) : x = y ∧ x.oneCell' = true := by
 unfold vbeq at h
 split at h <;> first | (simp at h; done) | skip
 ·simp only [beq_iff_eq] at h; subst h; exact ⟨rfl,rfl⟩
 ·simp only [Bool.and_eq_true,decide_eq_true_eq,beq_iff_eq] at h; obtain ⟨rfl,rfl⟩:=h; exact ⟨rfl,rfl⟩
 ·rename_i a b
  simp only [beq_iff_eq] at h
  obtain ⟨⟨a⟩⟩:=a
  obtain ⟨⟨b⟩⟩:=b
  simp only at h
  subst h
  exact ⟨rfl,rfl⟩
 ·exact ⟨rfl,rfl⟩
 ·simp only [Bool.and_eq_true,beq_iff_eq] at h; obtain ⟨rfl,rfl⟩:=h; exact ⟨rfl,rfl⟩
 ·exact ⟨rfl,rfl⟩
 ·exact ⟨rfl,rfl⟩
 ·exact ⟨rfl,rfl⟩
def vbeqL : List Value → List Value → Bool
 | [],[]=>true
 | a :: as,b :: bs=>vbeq a b && vbeqL as bs
 | _,_=>false
theorem JV4 : ∀ {xs ys:List Value},vbeqL xs ys = true → xs = ys
 | [],[],_=>rfl
 | a :: as,b :: bs,h=>by
   simp only [vbeqL,Bool.and_eq_true] at h
   rw [(JYO h.1).1,JV4 h.2]
 | [],_ :: _,h=>by simp [vbeqL] at h
 | _ :: _,[],h=>by simp [vbeqL] at h
def cellsEq : Option (List Value) → Option (List Value) → Bool
 | some a,some b=>vbeqL a b
 | _,_=>false
theorem Jbv {a b:Option (List Value)} (h:cellsEq a b = true) : ∃ cs,a = some cs ∧ b = some cs := by
 unfold cellsEq at h
 split at h
 ·rename_i x y; rw [JV4 h]; exact ⟨_,rfl,rfl⟩
 ·cases h
def chkOpd : Operand → COpd → Bool
 | .tmp n,.t m=>n == m
 | .const x,.c y=>vbeq x y
 | .global n,.g m=>n == m
 | _,_=>false
def ev (G:Nat → Option AV) (fr:Nat → Option AV) : COpd → Option AV
 | .t n=>fr n
 | .c x=>some (.v x)
 | .g n=>(G n).map .iptr
def FR (C:Ctx) (fr:Nat → Option AV) (a:Act) : Prop := ∀ t x,fr t = some x → ∃ y,a.tmps[t]? = some y ∧ SV C x y
def GR (C:Ctx) (G:Nat → Option AV) : Prop := ∀ n x,G n = some x → closed x = true ∧ V C (.iptr x) [.pointer (some ⟨n,0,none⟩)]
theorem FR.mono {C C':Ctx} (h:C.Le C') {fr:Nat → Option AV} {a:Act} (k:FR C fr a) : FR C' fr a := fun t x hx => let ⟨y,h1,h2⟩ := k t x hx; ⟨y,h1,h2.mono h⟩
theorem GR.mono {C C':Ctx} (h:C.Le C') {G:Nat → Option AV} (k:GR C G) : GR C' G := fun n x hx => ⟨(k n x hx).1,JtJ h _ _ (k n x hx).2⟩
theorem ev_ok {C:Ctx} {G fr:Nat → Option AV} {a:Act} (hf:FR C fr a) (hg:GR C G) {o:Operand} {c:COpd} {x:AV} (hc:chkOpd o c = true) (h:ev G fr c = some x) : SV C x (a.eval o) := by
 unfold chkOpd at hc
 split at hc
 ·rename_i n m
  simp only [beq_iff_eq] at hc
  subst hc
  obtain ⟨y,h1,h2⟩:=hf n x h
  obtain ⟨hlt,rfl⟩:=Array.getElem?_eq_some_iff.1 h1
  simpa [Act.eval,Array.getD,hlt] using h2
 ·rename_i v y
  obtain ⟨rfl,h1⟩:=JYO hc
  simp only [ev,Option.some.injEq] at h
  subst h
  show V C (.v v) [v]
  simp only [V]
  exact ⟨trivial,h1⟩
 ·rename_i n m
  simp only [beq_iff_eq] at hc
  subst hc
  simp only [ev,Option.map_eq_some_iff] at h
  obtain ⟨y,h1,rfl⟩:=h
  exact (hg n y h1).2
 ·cases hc
def chkOpds : List Operand → List COpd → Bool
 | [],[]=>true
 | o :: os,c :: cs=>chkOpd o c && chkOpds os cs
 | _,_=>false
def SVl (C:Ctx) : List AV → List Value → Prop
 | [],ys=>ys = []
 | a :: as,ys=>∃ y r,ys = y :: r ∧ SV C a y ∧ SVl C as r
def evs (G fr:Nat → Option AV) : List COpd → Option (List AV)
 | []=>some []
 | c :: cs=>(ev G fr c).bind fun x=>(evs G fr cs).map (x :: ·)
theorem Ju {C:Ctx} {G fr:Nat → Option AV} {a:Act} (hf:FR C fr a) (hg:GR C G) : ∀ {os:List Operand} {cs:List COpd} {xs:List AV},chkOpds os cs = true → evs G fr cs = some xs → SVl C xs (os.map a.eval)
 | [],[],xs,_,h=>by simp only [evs,Option.some.injEq] at h; subst h; simp [SVl]
 | o :: os,c :: cs,xs,hc,h=>by
   simp only [chkOpds,Bool.and_eq_true] at hc
   simp only [evs,Option.bind_eq_some_iff,Option.map_eq_some_iff] at h
   obtain ⟨x,h1,xs',h2,rfl⟩:=h
   simp only [List.map_cons,SVl]
   exact ⟨_,_,rfl,ev_ok hf hg hc.1 h1,Ju hf hg hc.2 h2⟩
 | [],_ :: _,_,hc,_=>by simp [chkOpds] at hc
 | _ :: _,[],_,hc,_=>by simp [chkOpds] at hc
inductive COp where
 | mov | pick
 | bin (op:BinOp) | eqb (neg:Bool) | eqp (neg:Bool) | eqa (neg:Bool) (k:IntKind) (n:Nat) | eqs (neg:Bool) (s:Sh)
 | not | un (op:UnOp)
 | convI (k:IntKind) | convId | convS | convB | convM
 | alloc (z:AV) | box
 | build (zs:List AV) (is:List Nat)
 | buildA (sz:Nat) (zs:List AV) (is:List Nat)
 | bslice (sz n:Nat) (z:AV) (is:List Nat)
 | load (agg:Bool) (sz:Nat) | store (agg:Bool) (sz:Nat)
 | nilc | faddr (fo sz:Nat) (agg:Bool) | field (agg:Bool) (sz off:Nat)
 | iaddr (sz:Nat) | iaddrArr (N sz:Nat) (agg:Bool)
 | idx (agg:Bool) (n sz:Nat) | idxS
 | slice (sz:Nat) (lo hi:Bool) | sliceArr (N sz:Nat) (lo hi:Bool) | sliceStr (lo hi:Bool) | slice0 (sz:Nat)
 | len | lenS | app (sz bytes:Nat) | appS (bytes:Nat) | appM (sz bytes:Nat) (z:AV)
 | copy (sz:Nat) | clear (sz:Nat) (z:AV)
 | mk (sz bytes:Nat) (z:AV)
 | ext (k:Nat)
 | mx | mn
 | mkmap (ka:Bool) (ks:Nat) (va:Bool) (vs:Nat)
 | mlook (sh:Sh) (z:AV) (ok:Bool) | mput (sh:Sh) | mdel (sh:Sh) | mlen | mclear | mrange
 | call (f:Nat)
def unV (op:UnOp) (x:Value) : Option Value :=
 match op,x with
 | .neg,.int k n=>some (.int k (k.wrap (0 - n)))
 | .xor,.int k n=>some (.int k (bitsOp .xor k (if k.signed then -1 else k.max) n))
 | _,_=>none
def bounds (lo hi:Bool) (vals:List AV) : Option (Option Int × Option Int) :=
 match lo,hi,vals with
 | false,false,[]=>some (none,none)
 | true,false,[.v (.int _ l)]=>some (some l,none)
 | false,true,[.v (.int _ h)]=>some (none,some h)
 | true,true,[.v (.int _ l),.v (.int _ h)]=>some (some l,some h)
 | _,_,_=>none
def step (c:COp) (vals:List AV) (m:Nat → Option Loc) (g d:Nat) : Option (AV × List (Nat × Option Loc)) :=
 match c with
 | .mov=>match vals with
   | [x]=>some (x,[])
   | _=>none
 | .pick=>match vals with
   | [.v (.bool t),a,b]=>some (if t then a else b,[])
   | _=>none
 | .bin op=>match vals with
   | [.v x,.v y]=>(binV op x y).map fun r=>(.v r,[])
   | _=>none
 | .eqb neg=>match vals with
   | [.v x,.v y]=>(eqbV neg x y).map fun r=>(.v r,[])
   | _=>none
 | .eqp neg=>match vals with
   | [x,.v (.pointer none)]=>(match x with
    | .v (.pointer none)=>some (.v (.bool !neg),[])
    | _=>if x.isRef = true then some (.v (.bool neg),[]) else none)
   | _=>none
 | .eqa neg k n=>match vals with
   | [.arr 1 xs,.arr 1 ys]=>(match intsOf k xs,intsOf k ys with
    | some a,some b=>if a.length = n ∧ b.length = n then some (.v (.bool (if neg then !(a == b) else a == b)),[]) else none
    | _,_=>none)
   | _=>none
 | .eqs neg sh=>match vals with
   | [a,b]=>(cmpA sh a b).map fun r=>(.v (.bool (if neg then !r else r)),[])
   | _=>none
 | .not=>match vals with
   | [.v (.bool b)]=>some (.v (.bool !b),[])
   | _=>none
 | .un op=>match vals with
   | [.v x]=>(unV op x).map fun r=>(.v r,[])
   | _=>none
 | .convI k=>match vals with
   | [.v (.int _ n)]=>some (.v (.int k (k.wrap n)),[])
   | _=>none
 | .convId=>match vals with
   | [.v (.string s)]=>some (.v (.string s),[])
   | _=>none
 | .convS=>match vals with
   | [x]=>(srcA m 1 x).bind fun xs=>(intsOf .u8 xs).map fun ns=>(.v (.string (strOfNums ns)),[])
   | _=>none
 | .convB=>match vals with
   | [.v (.string s)]=>if s.size ≤ maxLen then some (.sl 1 (bytesAV s),[]) else none
   | _=>none
 | .convM=>match vals with
   | [.row l 1 g' 0 n]=>(match m l with
    | some (.rows g'' 1 xs)=>if g'' = g' ∧ n = xs.length ∧ 0 < n then some (.sl 1 xs,[(l,none)]) else none
    | _=>none)
   | _=>none
 | .alloc z=>match vals with
   | []=>some (.ptr d g 0,[(d,some (.var g z))])
   | _=>none
 | .box=>match vals with
   | [x]=>if x.solid = true then some (.ptr d g 0,[(d,some (.var g x))]) else none
   | _=>none
 | .build zs is=>match vals with
   | vals=>if is.length = vals.length then (buildA zs (is.zip vals)).map fun r=>(.node r,[]) else none
 | .buildA sz zs is=>match vals with
   | vals=>if is.length = vals.length then (buildE sz zs (is.zip vals)).map fun r=>(.arr sz r,[]) else none
 | .bslice sz n z is=>match vals with
   | vals=>if is.length = vals.length then (buildE sz (List.replicate n z) (is.zip vals)).map fun r=>(.row d sz g 0 n,[(d,some (.rows g sz r))]) else none
 | .load agg sz=>match vals with
   | [p]=>(loadA m agg sz p).map fun r=>(r,[])
   | _=>none
 | .store agg sz=>match vals with
   | [p,x]=>(storeA m agg sz p x).map fun q=>(.top,[(q.1,some q.2)])
   | _=>none
 | .nilc=>match vals with
   | [p]=>if p.isRef = true then some (p,[]) else none
   | _=>none
 | .faddr fo sz agg=>match vals with
   | [p]=>(faddrA fo sz agg p).map fun r=>(r,[])
   | _=>none
 | .field agg sz off=>match vals with
   | [x]=>(fieldA agg sz off x).map fun r=>(r,[])
   | _=>none
 | .iaddr sz=>match vals with
   | [x,.v (.int _ i)]=>(iaddrA sz x i).map fun r=>(r,[])
   | _=>none
 | .iaddrArr N sz agg=>match vals with
   | [x,.v (.int _ i)]=>(iaddrArr N sz agg x i).map fun r=>(r,[])
   | _=>none
 | .idx agg n sz=>match vals with
   | [x,.v (.int _ i)]=>(indexA agg n sz x i).map fun r=>(r,[])
   | _=>none
 | .idxS=>match vals with
   | [.v (.string s),.v (.int _ i)]=>if 0 ≤ i then (s.data.toList[i.toNat]?).map fun b=>(.v (.int .u8 b.toNat),[]) else none
   | _=>none
 | .slice sz lo hi=>match vals with
   | x :: r=>(bounds lo hi r).bind fun q=>(sliceA sz x q.1 q.2).map fun y=>(y,[])
   | _=>none
 | .sliceArr N sz lo hi=>match vals with
   | x :: r=>(bounds lo hi r).bind fun q=>(sliceArr N sz x q.1 q.2).map fun y=>(y,[])
   | _=>none
 | .sliceStr lo hi=>match vals with
   | .v (.string s) :: r=>(bounds lo hi r).bind fun q=>(bnd s.size s.size q.1 q.2).map fun b=>(.v (.string (s.extract b.1 b.2)),[])
   | _=>none
 | .slice0 sz=>match vals with
   | [x]=>(match lenA x with
    | some _=>some (.row d sz g 0 0,[(d,some (.rows g sz []))])
    | none=>none)
   | _=>none
 | .len=>match vals with
   | [x]=>(lenA x).map fun (n:Nat)=>(.v (.int .i64 (n:Int)),[])
   | _=>none
 | .lenS=>match vals with
   | [.v (.string s)]=>some (.v (.int .i64 (s.size:Nat)),[])
   | _=>none
 | .app sz bytes=>match vals with
   | [a,b]=>((srcA m sz b).bind fun ys=>(destV m d sz a ys).bind fun q =>
    if q.2.length + ys.length ≤ maxLen ∧ (q.2.length + ys.length) * bytes ≤ 140737488355328 then some (.row q.1 sz g 0 (q.2.length + ys.length),[(q.1,some (.rows g sz (q.2 ++ ys)))]) else none)
   | _=>none
 | .appS bytes=>match vals with
   | [a,.v (.string s)]=>((destA m d 1 a).bind fun q =>
    if q.2.length + (bytesAV s).length ≤ maxLen ∧ (q.2.length + (bytesAV s).length) * bytes ≤ 140737488355328 then some (.row q.1 1 g 0 (q.2.length + (bytesAV s).length),[(q.1,some (.rows g 1 (q.2 ++ bytesAV s)))]) else none)
   | _=>none
 | .appM sz bytes z=>match vals with
   | [a,.v (.int _ k)]=>if 0 ≤ k ∧ k.toNat ≤ maxLen ∧ k.toNat * bytes ≤ 140737488355328 then ((destA m d sz a).bind fun q =>
    if q.2.length + k.toNat ≤ maxLen ∧ (q.2.length + k.toNat) * bytes ≤ 140737488355328 then some (.row q.1 sz g 0 (q.2.length + k.toNat),[(q.1,some (.rows g sz (q.2 ++ List.replicate k.toNat z)))]) else none) else none
   | _=>none
 | .copy sz=>match vals with
   | [a,b]=>(srcA m sz b).bind fun ys=>(overA m sz a (ys.take (copyN a ys))).map fun q=>(.v (.int .i64 (copyN a ys)),[(q.1,some q.2)])
   | _=>none
 | .clear sz z=>match vals with
   | [a]=>(overA m sz a (List.replicate (clearN a) z)).map fun q=>(.top,[(q.1,some q.2)])
   | _=>none
 | .mk sz bytes z=>match vals with
   | [.v (.int _ n),.v (.int _ n')]=>if n = n' ∧ 0 ≤ n ∧ bytes * n.toNat ≤ 281474976710656 ∧ n.toNat ≤ maxLen then some (.row d sz g 0 n.toNat,[(d,some (.rows g sz (List.replicate n.toNat z)))]) else none
   | _=>none
 | .ext k=>match vals with
   | [.tup as]=>(as[k]?).map fun x=>(x,[])
   | _=>none
 | .mx=>match vals with
   | [.v (.int k a),.v (.int _ b)]=>some (.v (.int k (if b > a then b else a)),[])
   | _=>none
 | .mn=>match vals with
   | [.v (.int k a),.v (.int _ b)]=>some (.v (.int k (if b < a then b else a)),[])
   | _=>none
 | .mkmap ka ks va vs=>match vals with
   | []=>some (.oref d g true,[(d,some (.ob g (.map ka ks va vs) (.node [.node [],.v (.int .i64 0)])))])
   | _=>none
 | .mlook sh z ok=>match vals with
   | [.oref l g' true,k]=>(lookA m sh l g' k).map fun r=>(if ok = true then .tup [r.getD z,.v (.bool r.isSome)] else r.getD z,[])
   | _=>none
 | .mput sh=>match vals with
   | [.oref l g' true,k,v]=>(putM m sh l g' k v).map fun q=>(.top,[(q.1,some q.2)])
   | _=>none
 | .mdel sh=>match vals with
   | [.oref l g' true,k]=>(delM m sh l g' k).map fun q=>(.top,[(q.1,some q.2)])
   | _=>none
 | .mlen=>match vals with
   | [.oref l g' true]=>(lenM m l g').map fun (n:Nat)=>(.v (.int .i64 (n:Int)),[])
   | _=>none
 | .mclear=>match vals with
   | [.oref l g' true]=>(clearM m l g').map fun q=>(.top,[(q.1,some q.2)])
   | _=>none
 | .mrange=>match vals with
   | [.oref l g' true]=>(rangeM m l g').map fun a=>(.oref d g false,[(d,some (.ob g .iter a))])
   | _=>none
 | .call _=>none
def isSlice (P:Program) (t:TypeId) : Option TypeId := match P.underlying t with | some (.slice e) => some e | _ => none
def isArr (P:Program) (t:TypeId) : Option (Nat × TypeId) := match P.underlying t with | some (.array n e) => some (n,e) | _ => none
def isStruct (P:Program) (t:TypeId) : Option (Array Field) := match P.underlying t with | some (.struct fs) => some fs | _ => none
def isInt (P:Program) (t:TypeId) : Option IntKind := match P.underlying t with | some (.int k) => some k | _ => none
def isStr (P:Program) (t:TypeId) : Bool := match P.underlying t with | some .string => true | _ => false
def isBoolT (P:Program) (t:TypeId) : Bool := match P.underlying t with | some .bool => true | _ => false
def isPtr (P:Program) (t:TypeId) : Bool := match P.underlying t with | some (.pointer _) => true | _ => false
theorem JS {P:Program} {t e:TypeId} (h:isSlice P t = some e) : P.underlying t = some (.slice e) := by unfold isSlice at h; split at h <;> simp_all
theorem JAj {P:Program} {t e:TypeId} {n:Nat} (h:isArr P t = some (n,e)) : P.underlying t = some (.array n e) := by unfold isArr at h; split at h <;> simp_all
theorem Jp5 {P:Program} {t:TypeId} {fs:Array Field} (h:isStruct P t = some fs) : P.underlying t = some (.struct fs) := by unfold isStruct at h; split at h <;> simp_all
theorem JpO {P:Program} {t:TypeId} {k:IntKind} (h:isInt P t = some k) : P.underlying t = some (.int k) := by unfold isInt at h; split at h <;> simp_all
theorem JpN {P:Program} {t:TypeId} (h:isStr P t = true) : P.underlying t = some .string := by unfold isStr at h; split at h <;> simp_all
theorem JPX {P:Program} {t:TypeId} (h:isBoolT P t = true) : P.underlying t = some .bool := by unfold isBoolT at h; split at h <;> simp_all
theorem J0B {P:Program} {t:TypeId} (h:isPtr P t = true) : ∃ e,P.underlying t = some (.pointer e) := by unfold isPtr at h; split at h <;> simp_all
def zeroIs (P:Program) (t:TypeId) (z:AV) : Bool :=
 match (P.info? t).bind (·.zero) with
 | some (.agg cs)=>z.isAgg && cellsEq (some cs.toList) (flat z)
 | some v=>!z.isAgg && z.solid && cellsEq (some [v]) (flat z)
 | none=>false
def isMap (P:Program) (t:TypeId) : Option (TypeId × TypeId) := match P.underlying t with | some (.map k e) => some (k,e) | _ => none
theorem JAo {P:Program} {t k e:TypeId} (h:isMap P t = some (k,e)) : P.underlying t = some (.map k e) := by unfold isMap at h; split at h <;> simp_all
def elemOkB (P:Program) (t:TypeId) (sz bytes:Nat) : Bool :=
 match isSlice P t with
 | some e=>tsz P e == some sz && decide (0 < sz) && (P.info? e).map (·.bytes) == some bytes && (match (P.info? e).bind (·.zero) with | some z=>z.cells.size == sz | none=>false)
 | none=>false
theorem JLd {P:Program} {t:TypeId} {sz bytes:Nat} (h:elemOkB P t sz bytes = true) : ∃ e,ElemOk P t e sz bytes := by
 unfold elemOkB at h
 split at h
 ·rename_i e he
  simp only [Bool.and_eq_true,beq_iff_eq,decide_eq_true_eq] at h
  obtain ⟨⟨⟨h1,h2⟩,h3⟩,h4⟩:=h
  split at h4
  ·rename_i z hz
   simp only [beq_iff_eq] at h4
   exact ⟨e,JS he,h1,h2,h3,z,hz,h4⟩
  ·cases h4
 ·cases h
def isGo (P:Program) (f:Nat) : Bool := match P.funcs[f]? with | some fn => fn.body.isSome && !(fn.name == "runtime.NumGoroutine") | none => false
theorem J0X {P:Program} {f:Nat} (h:isGo P f = true) (args:Array Value) (w:World) : (callFunc f args).run P w = .ok (.enter f args) w := by
 unfold isGo at h
 split at h
 ·rename_i fn hf
  simp only [Bool.and_eq_true,Bool.not_eq_true',beq_eq_false_iff_ne] at h
  obtain ⟨c,hc⟩:=Option.isSome_iff_exists.1 h.1
  simp [callFunc,hf,h.2,hc]
 ·cases h
def chkOp (P:Program) (op:Op) (xs:List COpd) : COp → Bool
 | .mov=>match op with
   | .move x=>chkOpds [x] xs
   | .assign x=>chkOpds [x] xs
   | _=>false
 | .pick=>match op with
   | .pick a b d=>chkOpds [a,b,d] xs
   | _=>false
 | .bin o'=>match op with
   | .binOp o _ x y _=>decide (o = o') && chkOpds [x,y] xs
   | _=>false
 | .eqb neg=>match op with
   | .binOp o t x y _=>decide (o = eqOp neg) && isBoolT P t && chkOpds [x,y] xs
   | _=>false
 | .eqp neg=>match op with
   | .binOp o t x y _=>decide (o = eqOp neg) && isPtr P t && chkOpds [x,y] xs
   | _=>false
 | .eqa neg k n=>match op with
   | .binOp o t x y _=>decide (o = eqOp neg) && chkOpds [x,y] xs && (match isArr P t with | some (n',e)=>n' == n && isInt P e == some k && tsz P e == some 1 && !(P.eqGuardType P.depth t) | none=>false)
   | _=>false
 | .eqs neg sh=>match op with
   | .binOp o t x y _=>decide (o = eqOp neg) && chkOpds [x,y] xs && (chkSh P sh t && sh.agg && !P.eqGuardType P.depth t && decide (Sh.dep sh ≤ 1000))
   | _=>false
 | .not=>match op with
   | .unOp o _ x=>decide (o = .not) && chkOpds [x] xs
   | _=>false
 | .un o'=>match op with
   | .unOp o _ x=>decide (o = o') && chkOpds [x] xs
   | _=>false
 | .convI k=>match op with
   | .convert s d x=>isInt P d == some k && (P.underlying s).isSome && chkOpds [x] xs
   | _=>false
 | .convId=>match op with
   | .convert s d x=>isStr P d && (P.underlying s).isSome && chkOpds [x] xs
   | _=>false
 | .convS=>match op with
   | .convert s d x=>isStr P d && (match isSlice P s with | some e=>isInt P e == some .u8 | none=>false) && chkOpds [x] xs
   | _=>false
 | .convB=>match op with
   | .convert s d x=>(P.underlying s).isSome && (match isSlice P d with | some e=>isInt P e == some .u8 | none=>false) && chkOpds [x] xs
   | _=>false
 | .convM=>match op with
   | .convert s d x=>s == d && (match isSlice P s with | some e=>isInt P e == some .u8 | none=>false) && chkOpds [x] xs
   | _=>false
 | .alloc z=>match op with
   | .alloc t=>xs.isEmpty && cellsEq (tzero P t) (flat z)
   | _=>false
 | .box=>match op with
   | .box _ x=>chkOpds [x] xs
   | _=>false
 | .build zs is=>match op with
   | .build t ps=>(match isStruct P t with | some fs=>placesOk P 0 fs.toList zs | none=>false) && cellsEq (tzero P t) (flats zs) && is == ps.toList.map (·.1) && chkOpds (ps.toList.map (·.2)) xs
   | _=>false
 | .buildA sz zs is=>match op with
   | .build t ps=>(match isArr P t with | some (_,e)=>tsz P e == some sz | none=>false) && cellsEq (tzero P t) (flatE sz zs) && is == ps.toList.map (·.1) && chkOpds (ps.toList.map (·.2)) xs
   | _=>false
 | .bslice sz n' z is=>match op with
   | .buildSlice t n ps=>n == n' && (match isSlice P t with | some e=>tsz P e == some sz && cellsEq (tzero P e) (flat z) && ((flat z).map (·.length)) == some sz | none=>false) && decide (0 < sz) && decide (n * sz ≤ 16777216) && is == ps.toList.map (·.1) && chkOpds (ps.toList.map (·.2)) xs
   | _=>false
 | .load agg sz=>match op with
   | .load t x=>tagg P t == some agg && tsz P t == some sz && aggOk agg sz && chkOpds [x] xs
   | _=>false
 | .store _ sz=>match op with
   | .store t x y=>tsz P t == some sz && chkOpds [x,y] xs
   | _=>false
 | .nilc=>match op with
   | .nilCheck x=>chkOpds [x] xs
   | _=>false
 | .faddr fo sz _=>match op with
   | .fieldAddr s x k=>(match (isStruct P s).bind (·[k]?) with | some f=>f.offset == fo && tsz P f.type == some sz && decide (sz ≠ 0) | none=>false) && chkOpds [x] xs
   | _=>false
 | .field agg sz off=>match op with
   | .field s x k=>(match (isStruct P s).bind (·[k]?) with | some f=>f.offset == off && tsz P f.type == some sz && tagg P f.type == some agg && aggOk agg sz | none=>false) && chkOpds [x] xs
   | _=>false
 | .iaddr sz=>match op with
   | .indexAddr t x i=>(match isSlice P t with | some e=>tsz P e == some sz | none=>false) && chkOpds [x,i] xs
   | _=>false
 | .iaddrArr N sz _=>match op with
   | .indexAddr t x i=>(match isArr P t with | some (n,e)=>n == N && tsz P e == some sz | none=>false) && chkOpds [x,i] xs
   | _=>false
 | .idx agg n sz=>match op with
   | .index t x i=>(match isArr P t with | some (n',e)=>n' == n && tsz P e == some sz && tagg P e == some agg && aggOk agg sz | none=>false) && chkOpds [x,i] xs
   | _=>false
 | .idxS=>match op with
   | .index t x i=>isStr P t && chkOpds [x,i] xs
   | _=>false
 | .slice sz l h=>match op with
   | .slice t x lo hi none=>(match isSlice P t with | some e=>tsz P e == some sz | none=>false) && l == lo.isSome && h == hi.isSome && chkOpds (x :: (lo.toList ++ hi.toList)) xs
   | _=>false
 | .sliceArr N sz l h=>match op with
   | .slice t x lo hi none=>(match isArr P t with | some (n,e)=>n == N && tsz P e == some sz | none=>false) && l == lo.isSome && h == hi.isSome && chkOpds (x :: (lo.toList ++ hi.toList)) xs
   | _=>false
 | .sliceStr l h=>match op with
   | .slice t x lo hi none=>isStr P t && l == lo.isSome && h == hi.isSome && chkOpds (x :: (lo.toList ++ hi.toList)) xs
   | _=>false
 | .slice0 sz=>match op with
   | .slice t x none (some (.const (.int _ h))) (some (.const (.int _ m)))=>(match isSlice P t with | some e=>tsz P e == some sz | none=>false) && h == 0 && m == 0 && chkOpds [x] xs
   | _=>false
 | .len=>match op with
   | .call { callee:=.builtin .len,args,argTypes }=>(match argTypes[0]? with | some t=>(isSlice P t).isSome | none=>false) && chkOpds args.toList xs
   | _=>false
 | .lenS=>match op with
   | .call { callee:=.builtin .len,args,argTypes }=>(match argTypes[0]? with | some t=>isStr P t | none=>false) && chkOpds args.toList xs
   | _=>false
 | .app sz bytes=>match op with
   | .call { callee:=.builtin .append,args,argTypes }=>(match argTypes.toList with | [t,t']=>elemOkB P t sz bytes && (isSlice P t').isSome | _=>false) && chkOpds args.toList xs
   | _=>false
 | .appS bytes=>match op with
   | .call { callee:=.builtin .append,args,argTypes }=>(match argTypes.toList with | [t,t']=>elemOkB P t 1 bytes && isStr P t' | _=>false) && chkOpds args.toList xs
   | _=>false
 | .appM sz bytes z=>match op with
   | .call { callee:=.builtin .append,args,argTypes }=>(match argTypes.toList with | [t,t']=>elemOkB P t sz bytes && (isInt P t').isSome && (match isSlice P t with | some e=>cellsEq (tzero P e) (flat z) && ((flat z).map (·.length)) == some sz | none=>false) | _=>false) && chkOpds args.toList xs
   | _=>false
 | .copy sz=>match op with
   | .call { callee:=.builtin .copy,args,argTypes }=>(match argTypes.toList with | [t,_]=>(match isSlice P t with | some e=>tsz P e == some sz | none=>false) | _=>false) && chkOpds args.toList xs
   | _=>false
 | .clear sz z=>match op with
   | .call { callee:=.builtin .clear,args,argTypes }=>(match argTypes.toList with | [t]=>(match isSlice P t with | some e=>cellsEq (tzero P e) (flat z) && ((flat z).map (·.length)) == some sz | none=>false) | _=>false) && decide (0 < sz) && chkOpds args.toList xs
   | _=>false
 | .mx=>match op with
   | .call { callee:=.builtin .max,args,.. }=>chkOpds args.toList xs
   | _=>false
 | .mn=>match op with
   | .call { callee:=.builtin .min,args,.. }=>chkOpds args.toList xs
   | _=>false
 | .mk sz bytes z=>match op with
   | .makeSlice t l c=>(match isSlice P t with | some e=>tsz P e == some sz && cellsEq (tzero P e) (flat z) && ((flat z).map (·.length)) == some sz && (P.info? e).map (·.bytes) == some bytes | none=>false) && decide (0 < sz) && chkOpds [l,c] xs
   | _=>false
 | .ext k'=>match op with
   | .extract x k=>k == k' && chkOpds [x] xs
   | _=>false
 | .mkmap ..=>match op with
   | .makeMap _ none=>xs.isEmpty
   | _=>false
 | .mlook sh z ok=>match op with
   | .lookup t x i ok'=>ok == ok' && (match isMap P t with | some (kt,et)=>chkSh P sh kt && decide (Sh.dep sh ≤ 1000) && zeroIs P et z | none=>false) && chkOpds [x,i] xs
   | _=>false
 | .mput sh=>match op with
   | .mapUpdate t x k v=>(match isMap P t with | some (kt,_)=>chkSh P sh kt && decide (Sh.dep sh ≤ 1000) | none=>false) && chkOpds [x,k,v] xs
   | _=>false
 | .mdel sh=>match op with
   | .call { callee:=.builtin .delete,args,argTypes }=>(match argTypes[0]? with | some t=>(match isMap P t with | some (kt,_)=>chkSh P sh kt && decide (Sh.dep sh ≤ 1000) | none=>false) | none=>false) && chkOpds args.toList xs
   | _=>false
 | .mlen=>match op with
   | .call { callee:=.builtin .len,args,argTypes }=>(match argTypes[0]? with | some t=>(isMap P t).isSome | none=>false) && chkOpds args.toList xs
   | _=>false
 | .mclear=>match op with
   | .call { callee:=.builtin .clear,args,argTypes }=>(match argTypes[0]? with | some t=>(isMap P t).isSome | none=>false) && chkOpds args.toList xs
   | _=>false
 | .mrange=>match op with
   | .range t x=>(isMap P t).isSome && chkOpds [x] xs
   | _=>false
 | .call f'=>match op with
   | .call { callee:=.value (.func f),args,.. }=>f == f' && isGo P f && chkOpds args.toList xs
   | _=>false
end
section
open Go
def ups (m:Nat → Option Loc) : List (Nat × Option Loc) → Nat → Option Loc
 | []=>m
 | (l,c) :: r=>ups (upd m l c) r
def Does (P:Program) (w0:World) (Ws I0:Nat → Prop) (C:Ctx) (g:Nat) (o:Oper) (a:Act) (av:AV) (us:List (Nat × Option Loc)) : Prop :=
 ∃ nx y w' C',(execOp a.eval o).run P C.w = .ok nx w' ∧ (nx = .value y ∨ (nx = .skip ∧ y = undef)) ∧ SV C' av y ∧ C'.w = w' ∧ C.Le C' ∧ WR w0 Ws I0 C' ∧ C'.m = ups C.m us ∧ (∀ k,C'.used k → C.used k ∨ k = g)
section
variable {P:Program} {w0:World} {Ws I0:Nat → Prop} {C:Ctx} {g:Nat} {o:Oper} {a:Act} {av:AV}
theorem Does.quiet (hw:WR w0 Ws I0 C) {y:Value} (h:(execOp a.eval o).run P C.w = .ok (.value y) C.w) (hv:SV C av y) : Does P w0 Ws I0 C g o a av [] :=
 ⟨_,y,C.w,C,h,.inl rfl,hv,rfl,Ctx.Le.refl C,hw,rfl,fun _ h=>.inl h⟩
theorem Does.new {l:Nat} {w':World} {B:Option Nat} {c':Loc} {y:Value} (h:(execOp a.eval o).run P C.w = .ok (.value y) w') (k1:C.Le (newAt C w' l g B c')) (k2:WR w0 Ws I0 (newAt C w' l g B c')) (k3:SV (newAt C w' l g B c') av y) :
 Does P w0 Ws I0 C g o a av [(l,some c')] :=
 ⟨_,y,w',_,h,.inl rfl,k3,rfl,k1,k2,rfl,fun _ h=>h⟩
theorem J5 {x:AV} {ys:List Value} (h:SVl C [x] ys) : ∃ y,ys = [y] ∧ SV C x y := by
 simp only [SVl] at h
 obtain ⟨y,r,rfl,h1,rfl⟩:=h
 exact ⟨y,rfl,h1⟩
theorem Jbb {x x':AV} {ys:List Value} (h:SVl C [x,x'] ys) : ∃ y y',ys = [y,y'] ∧ SV C x y ∧ SV C x' y' := by
 simp only [SVl] at h
 obtain ⟨y,r,rfl,h1,y',r',rfl,h2,rfl⟩:=h
 exact ⟨y,y',rfl,h1,h2⟩
theorem SV_v {x y:Value} (h:SV C (.v x) y) : y = x := by
 have h':V C (.v x) [y]:=h
 simp only [V] at h'
 exact (List.cons.inj h'.1).1
theorem JYz : ∀ {as:List AV} {ys:List Value} {k:Nat} {r:AV},SVs C as ys → as[k]? = some r → ∃ y,ys[k]? = some y ∧ SV1 C r y
 | [],_,_,_,_,h=>by simp at h
 | a :: as,ys,0,r,h,hr=>by
   obtain ⟨y,ys',rfl,h1,_⟩:=h
   simp only [List.getElem?_cons_zero,Option.some.injEq] at hr
   subst hr
   exact ⟨y,rfl,h1⟩
 | a :: as,ys,k + 1,r,h,hr=>by
   obtain ⟨y,ys',rfl,_,h2⟩:=h
   obtain ⟨y2,h3,h4⟩:=JYz (as:=as) (k:=k) h2 (by simpa using hr)
   exact ⟨y2,by simpa using h3,h4⟩
theorem SV_mk {x:Value} (h:x.oneCell' = true) : SV C (.v x) x := by
 show V C (.v x) [x]
 simp [V,h]
theorem JpH : ∀ {is:List Nat} {vals:List AV} {ys:List Value},is.length = vals.length → SVl C vals ys → PartsOk C (is.zip vals) (is.zip ys)
 | [],[],ys,_,h=>by simp only [SVl] at h; simp [PartsOk]
 | i :: is,v :: vals,ys,hl,h=>by
   simp only [SVl] at h
   obtain ⟨y,r,rfl,h1,h2⟩:=h
   simp only [List.zip_cons_cons,PartsOk]
   exact ⟨y,_,rfl,h1,JpH (by simpa using hl) h2⟩
 | [],_ :: _,_,hl,_=>by simp at hl
 | _ :: _,[],_,hl,_=>by simp at hl
theorem JHq {sz:Nat} : ∀ {parts:List (Nat × AV)} {zs r:List AV},buildE sz zs parts = some r → r.length = zs.length
 | [],zs,r,h=>by simp only [buildE,Option.some.injEq] at h; rw [h]
 | (i,x) :: ps,zs,r,h=>by
   simp only [buildE] at h
   split at h
   ·rw [JHq h]; simp
   ·cases h
theorem JZ6? (s:ByteArray) (n:Nat) : s[n]? = s.data.toList[n]? := by
 by_cases h:n < s.size
 ·rw [getElem?_pos s n h,List.getElem?_eq_getElem (by simpa using h)]
  rfl
 ·rw [getElem?_neg s n h,List.getElem?_eq_none (by simpa using h)]
theorem JNN (ps:Array (Nat × Operand)) (f:Operand → Value) : (ps.map fun (x:Nat × Operand)=>(x.1,f x.2)) = ((ps.toList.map (·.1)).zip ((ps.toList.map (·.2)).map f)).toArray := by
 apply Array.ext'
 simp only [Array.toList_map,List.map_map]
 generalize ps.toList = l
 induction l with
 | nil=>rfl
 | cons p l ih=>simp [ih]
theorem JUl {op:BinOp} {x y r:Value} (h:binV op x y = some r) : r.oneCell' = true := by
 unfold binV at h
 split at h
 ·cases op <;> simp only at h <;> split at h <;> first | (cases h; done) | (obtain rfl:=Option.some.inj h; rfl)
 ·cases op <;> simp only at h <;> first | (cases h; done) | (obtain rfl:=Option.some.inj h; rfl) | (split at h <;> first | (cases h; done) | (obtain rfl:=Option.some.inj h; rfl))
 ·cases h
theorem JPH {k:IntKind} {xs:List AV} {ns:List Int} {y:Value} (h:SV C (.arr 1 xs) y) (hn:intsOf k xs = some ns) : y = .agg (ns.map (Value.int k)).toArray := by
 obtain ⟨cs,rfl,hv⟩:=h
 simp only [V] at hv
 rw [← Jbe hn hv]
theorem J1y {s:Sh} {x y:AV} {r:Bool} (h:cmpA s x y = some r) (ha:s.agg = true) : x.isAgg = true ∧ y.isAgg = true := by
 cases s <;> simp [Sh.agg] at ha
 ·simp only [cmpA] at h
  split at h
  ·exact ⟨rfl,rfl⟩
  ·cases h
 ·simp only [cmpA] at h
  split at h
  ·exact ⟨rfl,rfl⟩
  ·cases h
theorem Jvi {w:World} {op:BinOp} {t:TypeId} {xo yo:Operand} {xs ys:Array Value} (h:P.eqGuardType P.depth t = false) : (eqGuard op t xo yo (.agg xs) (.agg ys)).run P w = .ok () w := by
 unfold eqGuard
 cases op <;> simp [h]
theorem JNH {lo hi:Bool} {vals:List AV} {q:Option Int × Option Int} {l h:Option Operand} (hl:lo = l.isSome) (hh:hi = h.isSome) (hb:bounds lo hi vals = some q) (hs:SVl C vals ((l.toList ++ h.toList).map a.eval)) :
 ∃ k1 k2,l.map a.eval = q.1.map (Value.int k1) ∧ h.map a.eval = q.2.map (Value.int k2):=by
 cases l <;> cases h <;> simp only [Option.isSome_none,Option.isSome_some] at hl hh <;> subst hl hh <;> unfold bounds at hb <;> split at hb <;> simp_all only [reduceCtorEq,Option.some.injEq,Bool.true_eq_false,Bool.false_eq_true]
 ·obtain rfl:=hb
  exact ⟨.i64,.i64,rfl,rfl⟩
 ·subst hb
  obtain ⟨y,e,h1⟩:=J5 hs
  simp only [Option.toList_none,Option.toList_some,List.nil_append,List.map_cons,List.map_nil,List.cons.injEq,and_true] at e
  rw [SV_v h1] at e
  exact ⟨.i64,_,rfl,by simp [e]; rfl⟩
 ·subst hb
  obtain ⟨y,e,h1⟩:=J5 hs
  simp only [Option.toList_none,Option.toList_some,List.append_nil,List.map_cons,List.map_nil,List.cons.injEq,and_true] at e
  rw [SV_v h1] at e
  exact ⟨_,.i64,by simp [e]; rfl,rfl⟩
 ·subst hb
  obtain ⟨y,y',e,h1,h2⟩:=Jbb hs
  simp only [Option.toList_some,List.singleton_append,List.map_cons,List.map_nil,List.cons.injEq,and_true] at e
  rw [SV_v h1,SV_v h2] at e
  exact ⟨_,_,by simp [e.1]; rfl,by simp [e.2]; rfl⟩
end
end
section
open Go
section
variable {P:Program} {w0:World} {Ws I0:Nat → Prop} {C:Ctx} {G fr:Nat → Option AV} {g d:Nat} {o:Oper} {a:Act} {av:AV} {xs:List COpd} {vals:List AV} {us:List (Nat × Option Loc)}
theorem J6f (hc:chkOp P o.op xs (.mov) = true) (hev:evs G fr xs = some vals) (hf:FR C fr a) (hG:GR C G) (hw:WR w0 Ws I0 C) (hnew:¬ C.used g) (hst:step (.mov) vals C.m g d = some (av,us)) : Does P w0 Ws I0 C g o a av us := by
 obtain ⟨dst,op,type,pos,after,guard⟩:=o
 simp only [chkOp] at hc
 split at hc <;> first | (cases hc; done) | skip
 all_goals
  have hs:=Ju hf hG hc hev
  simp only [List.map_cons,List.map_nil] at hs
  simp only [step] at hst
  split at hst <;> first | (cases hst; done) | skip
  simp only [Option.some.injEq,Prod.mk.injEq] at hst
  obtain ⟨rfl,rfl⟩:=hst
  obtain ⟨y,e,h1⟩:=J5 hs
  simp only [List.cons.injEq,and_true] at e
  subst e
  exact Does.quiet hw (by simp only [execOp]; rfl) h1
theorem J3F (hc:chkOp P o.op xs (.pick) = true) (hev:evs G fr xs = some vals) (hf:FR C fr a) (hG:GR C G) (hw:WR w0 Ws I0 C) (hnew:¬ C.used g) (hst:step (.pick) vals C.m g d = some (av,us)) : Does P w0 Ws I0 C g o a av us := by
 obtain ⟨dst,op,type,pos,after,guard⟩:=o
 simp only [chkOp] at hc
 split at hc <;> first | (cases hc; done) | skip
 rename_i co xo yo
 have hs:=Ju hf hG hc hev
 simp only [List.map_cons,List.map_nil] at hs
 simp only [step] at hst
 split at hst <;> first | (cases hst; done) | skip
 simp only [Option.some.injEq,Prod.mk.injEq] at hst
 obtain ⟨rfl,rfl⟩:=hst
 simp only [SVl] at hs
 obtain ⟨y0,r,e,h0,y1,r1,rfl,h1,y2,r2,rfl,h2,rfl⟩:=hs
 simp only [List.cons.injEq,and_true] at e
 obtain ⟨e0,e1,e2⟩:=e
 have e0':=SV_v h0
 rename_i t _ _
 refine Does.quiet hw (y:=if t then y1 else y2) ?_ ?_
 ·simp [execOp,e0,e0',e1,e2,asBool]
 ·cases t <;> first | exact h1 | exact h2
theorem J6M {bop:BinOp} (hc:chkOp P o.op xs (.bin bop) = true) (hev:evs G fr xs = some vals) (hf:FR C fr a) (hG:GR C G) (hw:WR w0 Ws I0 C) (hnew:¬ C.used g) (hst:step (.bin bop) vals C.m g d = some (av,us)) : Does P w0 Ws I0 C g o a av us := by
 obtain ⟨dst,op,type,pos,after,guard⟩:=o
 simp only [chkOp] at hc
 split at hc <;> first | (cases hc; done) | skip
 rename_i o t xo yo yt
 simp only [Bool.and_eq_true,decide_eq_true_eq] at hc
 obtain ⟨rfl,hc⟩:=hc
 have hs:=Ju hf hG hc hev
 simp only [List.map_cons,List.map_nil] at hs
 simp only [step] at hst
 split at hst <;> first | (cases hst; done) | skip
 obtain ⟨y,y',e,h1,h2⟩:=Jbb hs
 simp only [List.cons.injEq,and_true] at e
 obtain ⟨e1,e2⟩:=e
 simp only [Option.map_eq_some_iff,Prod.mk.injEq] at hst
 obtain ⟨r,hr,rfl,rfl⟩:=hst
 have b1:=SV_v h1
 have b2:=SV_v h2
 subst b1 b2
 have hrun:=J4Y (P:=P) (w:=C.w) (t:=t) (xo:=xo) (yo:=yo) hr
 exact Does.quiet hw (y:=r) (by simp only [execOp,e1,e2]; rw [Sem.run_bind,hrun]; rfl) (SV_mk (JUl hr))
theorem J6b {neg:Bool} (hc:chkOp P o.op xs (.eqb neg) = true) (hev:evs G fr xs = some vals) (hf:FR C fr a) (hG:GR C G) (hw:WR w0 Ws I0 C) (hnew:¬ C.used g) (hst:step (.eqb neg) vals C.m g d = some (av,us)) : Does P w0 Ws I0 C g o a av us := by
 obtain ⟨dst,op,type,pos,after,guard⟩:=o
 simp only [chkOp] at hc
 split at hc <;> first | (cases hc; done) | skip
 rename_i o t xo yo yt
 simp only [Bool.and_eq_true,decide_eq_true_eq] at hc
 obtain ⟨⟨rfl,hb⟩,hc⟩:=hc
 have hs:=Ju hf hG hc hev
 simp only [List.map_cons,List.map_nil] at hs
 simp only [step] at hst
 split at hst <;> first | (cases hst; done) | skip
 obtain ⟨y,y',e,h1,h2⟩:=Jbb hs
 simp only [List.cons.injEq,and_true] at e
 obtain ⟨e1,e2⟩:=e
 simp only [Option.map_eq_some_iff,Prod.mk.injEq] at hst
 obtain ⟨r,hr,rfl,rfl⟩:=hst
 have b1:=SV_v h1
 have b2:=SV_v h2
 subst b1 b2
 have hrun:=J3p (P:=P) (w:=C.w) (xo:=xo) (yo:=yo) (JPX hb) hr
 refine Does.quiet hw (y:=r) (by simp only [execOp,e1,e2]; rw [Sem.run_bind,hrun]; rfl) (SV_mk ?_)
 unfold eqbV at hr
 split at hr
 ·obtain rfl:=Option.some.inj hr; rfl
 ·cases hr
theorem J7h {neg:Bool} (hc:chkOp P o.op xs (.eqp neg) = true) (hev:evs G fr xs = some vals) (hf:FR C fr a) (hG:GR C G) (hw:WR w0 Ws I0 C) (hnew:¬ C.used g) (hst:step (.eqp neg) vals C.m g d = some (av,us)) : Does P w0 Ws I0 C g o a av us := by
 obtain ⟨dst,op,type,pos,after,guard⟩:=o
 simp only [chkOp] at hc
 split at hc <;> first | (cases hc; done) | skip
 rename_i o t xo yo yt
 simp only [Bool.and_eq_true,decide_eq_true_eq] at hc
 obtain ⟨⟨rfl,hb⟩,hc⟩:=hc
 have hs:=Ju hf hG hc hev
 simp only [List.map_cons,List.map_nil] at hs
 simp only [step] at hst
 split at hst <;> first | (cases hst; done) | skip
 obtain ⟨y,y',e,h1,h2⟩:=Jbb hs
 simp only [List.cons.injEq,and_true] at e
 obtain ⟨e1,e2⟩:=e
 have b2:=SV_v h2
 subst b2
 obtain ⟨e,he⟩:=J0B hb
 split at hst
 ·simp only [Option.some.injEq,Prod.mk.injEq] at hst
  obtain ⟨rfl,rfl⟩:=hst
  have b1:=SV_v h1
  subst b1
  have hrun:=JYQ (P:=P) (w:=C.w) (neg:=neg) (xo:=xo) (yo:=yo) none he
  exact Does.quiet hw (y:=.bool !neg) (by simp only [execOp,e1,e2]; rw [Sem.run_bind,hrun]; cases neg <;> rfl) (SV_mk rfl)
 ·split at hst
  ·rename_i hq
   simp only [Option.some.injEq,Prod.mk.injEq] at hst
   obtain ⟨rfl,rfl⟩:=hst
   obtain ⟨ad,rfl⟩:=JLT h1 hq
   have hrun:=JYQ (P:=P) (w:=C.w) (neg:=neg) (xo:=xo) (yo:=yo) (some ad) he
   exact Does.quiet hw (y:=.bool neg) (by simp only [execOp,e1,e2]; rw [Sem.run_bind,hrun]; cases neg <;> rfl) (SV_mk rfl)
  ·cases hst
theorem J7y {neg:Bool} {k:IntKind} {n:Nat} (hc:chkOp P o.op xs (.eqa neg k n) = true) (hev:evs G fr xs = some vals) (hf:FR C fr a) (hG:GR C G) (hw:WR w0 Ws I0 C) (hnew:¬ C.used g) (hst:step (.eqa neg k n) vals C.m g d = some (av,us)) : Does P w0 Ws I0 C g o a av us := by
 obtain ⟨dst,op,type,pos,after,guard⟩:=o
 simp only [chkOp] at hc
 split at hc <;> first | (cases hc; done) | skip
 rename_i o t xo yo yt
 simp only [Bool.and_eq_true,decide_eq_true_eq] at hc
 obtain ⟨⟨rfl,hc⟩,hty⟩:=hc
 have hs:=Ju hf hG hc hev
 simp only [List.map_cons,List.map_nil] at hs
 simp only [step] at hst
 split at hst <;> first | (cases hst; done) | skip
 obtain ⟨y,y',e,h1,h2⟩:=Jbb hs
 simp only [List.cons.injEq,and_true] at e
 obtain ⟨e1,e2⟩:=e
 split at hst
 ·rename_i as bs ha hb
  split at hst
  ·rename_i hl
   simp only [Option.some.injEq,Prod.mk.injEq] at hst
   obtain ⟨rfl,rfl⟩:=hst
   obtain ⟨rfl,hl2⟩:=hl
   split at hty
   ·rename_i n' e hae
    simp only [Bool.and_eq_true,beq_iff_eq,Bool.not_eq_true'] at hty
    obtain ⟨⟨⟨rfl,he⟩,hsz⟩,hgd⟩:=hty
    have b1:=JPH h1 ha
    have b2:=JPH h2 hb
    subst b1 b2
    have heq:(Op.equal t (.agg (as.map (Value.int k)).toArray) (.agg (bs.map (Value.int k)).toArray)).run P C.w = .ok (as == bs) C.w :=
     JP2 (P:=P) (w:=C.w) (D:=9999) (by omega) (JAj hae) (JpO he) hsz hl2
    have hg:=Jvi (P:=P) (w:=C.w) (op:=eqOp neg) (t:=t) (xo:=xo) (yo:=yo) (xs:=(as.map (Value.int k)).toArray) (ys:=(bs.map (Value.int k)).toArray) hgd
    refine Does.quiet hw (y:=.bool (if neg then !(as == bs) else as == bs)) ?_ (SV_mk rfl)
    have hrun:(do eqGuard (eqOp neg) t xo yo (.agg (as.map (Value.int k)).toArray) (.agg (bs.map (Value.int k)).toArray); binOp (eqOp neg) t (.agg (as.map (Value.int k)).toArray) (.agg (bs.map (Value.int k)).toArray):Sem Value).run P C.w = .ok (.bool (if neg then !(as == bs) else as == bs)) C.w:=by
     rw [Sem.run_bind,hg,Result.andThen_ok]
     cases neg <;> simp [eqOp,binOp,heq]
    simp only [execOp,e1,e2]
    rw [Sem.run_bind,hrun]
    rfl
   ·cases hty
  ·cases hst
 ·cases hst
theorem J69 {neg:Bool} {sh:Sh} (hc:chkOp P o.op xs (.eqs neg sh) = true) (hev:evs G fr xs = some vals) (hf:FR C fr a) (hG:GR C G) (hw:WR w0 Ws I0 C) (hnew:¬ C.used g) (hst:step (.eqs neg sh) vals C.m g d = some (av,us)) : Does P w0 Ws I0 C g o a av us := by
 obtain ⟨dst,op,type,pos,after,guard⟩:=o
 simp only [chkOp] at hc
 split at hc <;> first | (cases hc; done) | skip
 rename_i o t xo yo yt
 simp only [Bool.and_eq_true,decide_eq_true_eq,Bool.not_eq_true'] at hc
 obtain ⟨⟨rfl,hc⟩,⟨⟨hsh,hag⟩,hgd⟩,hdep⟩:=hc
 have hs:=Ju hf hG hc hev
 simp only [List.map_cons,List.map_nil] at hs
 simp only [step] at hst
 split at hst <;> first | (cases hst; done) | skip
 rename_i av1 av2
 obtain ⟨y,y',e,h1,h2⟩:=Jbb hs
 simp only [List.cons.injEq,and_true] at e
 obtain ⟨e1,e2⟩:=e
 simp only [Option.map_eq_some_iff,Prod.mk.injEq] at hst
 obtain ⟨r,hr,rfl,rfl⟩:=hst
 obtain ⟨i1,i2⟩:=J1y hr hag
 obtain ⟨cs,rfl,v1⟩:=JNs h1 i1
 obtain ⟨ds,rfl,v2⟩:=JNs h2 i2
 have heq:=eqSh (P:=P) (w:=C.w) sh t av1 av2 cs.toList ds.toList r 10000 hsh hr v1 v2 (by omega)
 rw [hag] at heq
 have hg:=Jvi (P:=P) (w:=C.w) (op:=eqOp neg) (t:=t) (xo:=xo) (yo:=yo) (xs:=cs) (ys:=ds) hgd
 refine Does.quiet hw (y:=.bool (if neg then !r else r)) ?_ (SV_mk rfl)
 have heq':(Op.equal t (.agg cs) (.agg ds)).run P C.w = .ok r C.w:=heq
 have hrun:(do eqGuard (eqOp neg) t xo yo (.agg cs) (.agg ds); binOp (eqOp neg) t (.agg cs) (.agg ds):Sem Value).run P C.w = .ok (.bool (if neg then !r else r)) C.w:=by
  rw [Sem.run_bind,hg,Result.andThen_ok]
  cases neg <;> simp [eqOp,binOp,heq']
 simp only [execOp,e1,e2]
 rw [Sem.run_bind,hrun]
 rfl
theorem J7G (hc:chkOp P o.op xs (.not) = true) (hev:evs G fr xs = some vals) (hf:FR C fr a) (hG:GR C G) (hw:WR w0 Ws I0 C) (hnew:¬ C.used g) (hst:step (.not) vals C.m g d = some (av,us)) : Does P w0 Ws I0 C g o a av us := by
 obtain ⟨dst,op,type,pos,after,guard⟩:=o
 simp only [chkOp] at hc
 split at hc <;> first | (cases hc; done) | skip
 rename_i o t x
 simp only [Bool.and_eq_true,decide_eq_true_eq] at hc
 obtain ⟨rfl,hc⟩:=hc
 have hs:=Ju hf hG hc hev
 simp only [List.map_cons,List.map_nil] at hs
 simp only [step] at hst
 split at hst <;> first | (cases hst; done) | skip
 obtain ⟨y,e,h1⟩:=J5 hs
 simp only [List.cons.injEq,and_true] at e
 simp only [Option.some.injEq,Prod.mk.injEq] at hst
 obtain ⟨rfl,rfl⟩:=hst
 have b1:=SV_v h1
 subst b1
 exact Does.quiet hw (y:=.bool _) (by simp only [execOp,e]; simp [Op.unary]) (SV_mk rfl)
theorem ok_un {uop:UnOp} (hc:chkOp P o.op xs (.un uop) = true) (hev:evs G fr xs = some vals) (hf:FR C fr a) (hG:GR C G) (hw:WR w0 Ws I0 C) (hnew:¬ C.used g) (hst:step (.un uop) vals C.m g d = some (av,us)) : Does P w0 Ws I0 C g o a av us := by
 obtain ⟨dst,op,type,pos,after,guard⟩:=o
 simp only [chkOp] at hc
 split at hc <;> first | (cases hc; done) | skip
 rename_i o t x
 simp only [Bool.and_eq_true,decide_eq_true_eq] at hc
 obtain ⟨rfl,hc⟩:=hc
 have hs:=Ju hf hG hc hev
 simp only [List.map_cons,List.map_nil] at hs
 simp only [step] at hst
 split at hst <;> first | (cases hst; done) | skip
 obtain ⟨y,e,h1⟩:=J5 hs
 simp only [List.cons.injEq,and_true] at e
 simp only [Option.map_eq_some_iff,Prod.mk.injEq] at hst
 obtain ⟨r,hr,rfl,rfl⟩:=hst
 have b1:=SV_v h1
 subst b1
 unfold unV at hr
 split at hr <;> first | (cases hr; done) | skip
 all_goals
  obtain rfl:=Option.some.inj hr
  exact Does.quiet hw (y:=.int _ _) (by simp only [execOp,e]; simp [Op.unary,Op.intArith,Op.intBits,bitsOp]) (SV_mk rfl)
theorem J1O {k:IntKind} (hc:chkOp P o.op xs (.convI k) = true) (hev:evs G fr xs = some vals) (hf:FR C fr a) (hG:GR C G) (hw:WR w0 Ws I0 C) (hnew:¬ C.used g) (hst:step (.convI k) vals C.m g d = some (av,us)) : Does P w0 Ws I0 C g o a av us := by
 obtain ⟨dst,op,type,pos,after,guard⟩:=o
 simp only [chkOp] at hc
 split at hc <;> first | (cases hc; done) | skip
 rename_i s t x
 simp only [Bool.and_eq_true,beq_iff_eq] at hc
 obtain ⟨⟨hd,hs1⟩,hc⟩:=hc
 have hs:=Ju hf hG hc hev
 simp only [List.map_cons,List.map_nil] at hs
 simp only [step] at hst
 split at hst <;> first | (cases hst; done) | skip
 obtain ⟨y,e,h1⟩:=J5 hs
 simp only [List.cons.injEq,and_true] at e
 simp only [Option.some.injEq,Prod.mk.injEq] at hst
 obtain ⟨rfl,rfl⟩:=hst
 have b1:=SV_v h1
 subst b1
 obtain ⟨u,hu⟩:=Option.isSome_iff_exists.1 hs1
 exact Does.quiet hw (y:=.int k _) (by simp only [execOp,e]; simp [convert,run_underlying hu,run_underlying (JpO hd),Conv.intToInt]) (SV_mk rfl)
theorem JZU (hc:chkOp P o.op xs (.convId) = true) (hev:evs G fr xs = some vals) (hf:FR C fr a) (hG:GR C G) (hw:WR w0 Ws I0 C) (hnew:¬ C.used g) (hst:step (.convId) vals C.m g d = some (av,us)) : Does P w0 Ws I0 C g o a av us := by
 obtain ⟨dst,op,type,pos,after,guard⟩:=o
 simp only [chkOp] at hc
 split at hc <;> first | (cases hc; done) | skip
 rename_i s t x
 simp only [Bool.and_eq_true,beq_iff_eq] at hc
 obtain ⟨⟨hd,hs1⟩,hc⟩:=hc
 have hs:=Ju hf hG hc hev
 simp only [List.map_cons,List.map_nil] at hs
 simp only [step] at hst
 split at hst <;> first | (cases hst; done) | skip
 obtain ⟨y,e,h1⟩:=J5 hs
 simp only [List.cons.injEq,and_true] at e
 simp only [Option.some.injEq,Prod.mk.injEq] at hst
 obtain ⟨rfl,rfl⟩:=hst
 have b1:=SV_v h1
 subst b1
 obtain ⟨u,hu⟩:=Option.isSome_iff_exists.1 hs1
 exact Does.quiet hw (y:=.string _) (by simp only [execOp,e]; simp [convert,run_underlying hu,run_underlying (JpN hd)]) (SV_mk rfl)
theorem J0y (hc:chkOp P o.op xs (.convS) = true) (hev:evs G fr xs = some vals) (hf:FR C fr a) (hG:GR C G) (hw:WR w0 Ws I0 C) (hnew:¬ C.used g) (hst:step (.convS) vals C.m g d = some (av,us)) : Does P w0 Ws I0 C g o a av us := by
 obtain ⟨dst,op,type,pos,after,guard⟩:=o
 simp only [chkOp] at hc
 split at hc <;> first | (cases hc; done) | skip
 rename_i s t x
 simp only [Bool.and_eq_true] at hc
 obtain ⟨⟨hd,h8⟩,hc⟩:=hc
 have hs:=Ju hf hG hc hev
 simp only [List.map_cons,List.map_nil] at hs
 simp only [step] at hst
 split at hst <;> first | (cases hst; done) | skip
 obtain ⟨y,e,h1⟩:=J5 hs
 simp only [List.cons.injEq,and_true] at e
 simp only [Option.bind_eq_some_iff,Option.map_eq_some_iff,Prod.mk.injEq] at hst
 obtain ⟨ys,hy,ns,hn,rfl,rfl⟩:=hst
 split at h8
 ·rename_i el hel
  simp only [beq_iff_eq] at h8
  have hrun:=JYG (P:=P) hw (JS hel) (JpO h8) (JpN hd) h1 hy hn
  exact Does.quiet hw (y:=.string (strOfNums ns)) (by simp [execOp,e,hrun]) (SV_mk rfl)
 ·cases h8
theorem J1N (hc:chkOp P o.op xs (.convB) = true) (hev:evs G fr xs = some vals) (hf:FR C fr a) (hG:GR C G) (hw:WR w0 Ws I0 C) (hnew:¬ C.used g) (hst:step (.convB) vals C.m g d = some (av,us)) : Does P w0 Ws I0 C g o a av us := by
 obtain ⟨dst,op,type,pos,after,guard⟩:=o
 simp only [chkOp] at hc
 split at hc <;> first | (cases hc; done) | skip
 rename_i s t x
 simp only [Bool.and_eq_true] at hc
 obtain ⟨⟨hs1,h8⟩,hc⟩:=hc
 have hs:=Ju hf hG hc hev
 simp only [List.map_cons,List.map_nil] at hs
 simp only [step] at hst
 split at hst <;> first | (cases hst; done) | skip
 obtain ⟨y,e,h1⟩:=J5 hs
 simp only [List.cons.injEq,and_true] at e
 split at hst
 ·rename_i hm
  simp only [Option.some.injEq,Prod.mk.injEq] at hst
  obtain ⟨rfl,rfl⟩:=hst
  obtain ⟨u,hu⟩:=Option.isSome_iff_exists.1 hs1
  split at h8
  ·rename_i el hel
   simp only [beq_iff_eq] at h8
   obtain ⟨z,w',hrun,k1,k2,k3⟩:=JZy (P:=P) hw hu (JS hel) (JpO h8) h1 hm
   exact ⟨_,z,w',_,by simp only [execOp,e]; simp [hrun],.inl rfl,k3,rfl,k1,k2,rfl,fun _ h=>.inl h⟩
  ·cases h8
 ·cases hst
theorem J0G (hc:chkOp P o.op xs (.convM) = true) (hev:evs G fr xs = some vals) (hf:FR C fr a) (hG:GR C G) (hw:WR w0 Ws I0 C) (hnew:¬ C.used g) (hst:step (.convM) vals C.m g d = some (av,us)) : Does P w0 Ws I0 C g o a av us := by
 obtain ⟨dst,op,type,pos,after,guard⟩:=o
 simp only [chkOp] at hc
 split at hc <;> first | (cases hc; done) | skip
 rename_i s t x
 simp only [Bool.and_eq_true,beq_iff_eq] at hc
 obtain ⟨⟨rfl,h8⟩,hc⟩:=hc
 have hs:=Ju hf hG hc hev
 simp only [List.map_cons,List.map_nil] at hs
 simp only [step] at hst
 split at hst <;> first | (cases hst; done) | skip
 obtain ⟨y,e,h1⟩:=J5 hs
 simp only [List.cons.injEq,and_true] at e
 split at hst
 ·rename_i l g' n _ g'' ys hm
  split at hst
  ·rename_i hcc
   obtain ⟨rfl,hn,h0⟩:=hcc
   simp only [Option.some.injEq,Prod.mk.injEq] at hst
   obtain ⟨rfl,rfl⟩:=hst
   split at h8
   ·rename_i el hel
    simp only [beq_iff_eq] at h8
    obtain ⟨w',b,hrun,k1,k2,k3⟩:=JZX (P:=P) hw (JS hel) (JpO h8) h1 hm hn h0
    exact ⟨_,y,w',_,by simp only [execOp,e]; simp [hrun],.inl rfl,k3,rfl,k1,k2,rfl,fun _ h=>.inl h⟩
   ·cases h8
  ·cases hst
 ·cases hst
theorem J0A {z:AV} (hc:chkOp P o.op xs (.alloc z) = true) (hev:evs G fr xs = some vals) (hf:FR C fr a) (hG:GR C G) (hw:WR w0 Ws I0 C) (hnew:¬ C.used g) (hst:step (.alloc z) vals C.m g d = some (av,us)) : Does P w0 Ws I0 C g o a av us := by
 obtain ⟨dst,op,type,pos,after,guard⟩:=o
 simp only [chkOp] at hc
 split at hc <;> first | (cases hc; done) | skip
 rename_i t
 simp only [Bool.and_eq_true] at hc
 obtain ⟨_,hc2⟩:=hc
 obtain ⟨cs,hz,hfl⟩:=Jbv hc2
 simp only [step] at hst
 split at hst <;> first | (cases hst; done) | skip
 simp only [Option.some.injEq,Prod.mk.injEq] at hst
 obtain ⟨rfl,rfl⟩:=hst
 obtain ⟨y,w',hr,k1,k2,k3⟩:=JZG (P:=P) (l:=d) hw hnew hz hfl
 exact Does.new (by simp [execOp,hr]) k1 k2 k3
theorem J6W (hc:chkOp P o.op xs (.box) = true) (hev:evs G fr xs = some vals) (hf:FR C fr a) (hG:GR C G) (hw:WR w0 Ws I0 C) (hnew:¬ C.used g) (hst:step (.box) vals C.m g d = some (av,us)) : Does P w0 Ws I0 C g o a av us := by
 obtain ⟨dst,op,type,pos,after,guard⟩:=o
 simp only [chkOp] at hc
 split at hc <;> first | (cases hc; done) | skip
 rename_i t x
 have hs:=Ju hf hG hc hev
 simp only [List.map_cons,List.map_nil] at hs
 simp only [step] at hst
 split at hst <;> first | (cases hst; done) | skip
 obtain ⟨y,e,h1⟩:=J5 hs
 simp only [List.cons.injEq,and_true] at e
 split at hst
 ·rename_i hso
  simp only [Option.some.injEq,Prod.mk.injEq] at hst
  obtain ⟨rfl,rfl⟩:=hst
  obtain ⟨z,w',hr,k1,k2,k3⟩:=J3C (P:=P) (l:=d) (t:=t) hw hnew h1 hso
  exact Does.new (by simp [execOp,e,hr]) k1 k2 k3
 ·cases hst
theorem J0Q {zs:List AV} {is:List Nat} (hc:chkOp P o.op xs (.build zs is) = true) (hev:evs G fr xs = some vals) (hf:FR C fr a) (hG:GR C G) (hw:WR w0 Ws I0 C) (hnew:¬ C.used g) (hst:step (.build zs is) vals C.m g d = some (av,us)) : Does P w0 Ws I0 C g o a av us := by
 obtain ⟨dst,op,type,pos,after,guard⟩:=o
 simp only [chkOp] at hc
 split at hc <;> first | (cases hc; done) | skip
 rename_i t ps
 simp only [Bool.and_eq_true,beq_iff_eq] at hc
 obtain ⟨⟨⟨h1,h2⟩,rfl⟩,hc⟩:=hc
 obtain ⟨cs,hz,hfl⟩:=Jbv h2
 have hs:=Ju hf hG hc hev
 simp only [step] at hst
 split at hst
 ·rename_i hlen
  simp only [Option.map_eq_some_iff,Prod.mk.injEq] at hst
  obtain ⟨r,hr,rfl,rfl⟩:=hst
  have hp:=JpH hlen hs
  split at h1
  ·rename_i fs hfs
   obtain ⟨y,hrun,hv⟩:=JZQ (P:=P) (Jp5 hfs) hz hfl h1 hp hr
   refine Does.quiet hw (y:=y) ?_ hv
   simp only [execOp]
   rw [JNN ps a.eval,Sem.run_bind,hrun]
   rfl
  ·cases h1
 ·cases hst
theorem JZv {sz:Nat} {zs:List AV} {is:List Nat} (hc:chkOp P o.op xs (.buildA sz zs is) = true) (hev:evs G fr xs = some vals) (hf:FR C fr a) (hG:GR C G) (hw:WR w0 Ws I0 C) (hnew:¬ C.used g) (hst:step (.buildA sz zs is) vals C.m g d = some (av,us)) : Does P w0 Ws I0 C g o a av us := by
 obtain ⟨dst,op,type,pos,after,guard⟩:=o
 simp only [chkOp] at hc
 split at hc <;> first | (cases hc; done) | skip
 rename_i t ps
 simp only [Bool.and_eq_true,beq_iff_eq] at hc
 obtain ⟨⟨⟨h1,h2⟩,rfl⟩,hc⟩:=hc
 obtain ⟨cs,hz,hfl⟩:=Jbv h2
 have hs:=Ju hf hG hc hev
 simp only [step] at hst
 split at hst
 ·rename_i hlen
  simp only [Option.map_eq_some_iff,Prod.mk.injEq] at hst
  obtain ⟨r,hr,rfl,rfl⟩:=hst
  have hp:=JpH hlen hs
  split at h1
  ·rename_i n' el hel
   simp only [beq_iff_eq] at h1
   obtain ⟨y,hrun,hv⟩:=JRO (P:=P) (JAj hel) h1 hz hfl hp hr
   refine Does.quiet hw (y:=y) ?_ hv
   simp only [execOp]
   rw [JNN ps a.eval,Sem.run_bind,hrun]
   rfl
  ·cases h1
 ·cases hst
theorem J0h {sz n:Nat} {z:AV} {is:List Nat} (hc:chkOp P o.op xs (.bslice sz n z is) = true) (hev:evs G fr xs = some vals) (hf:FR C fr a) (hG:GR C G) (hw:WR w0 Ws I0 C) (hnew:¬ C.used g) (hst:step (.bslice sz n z is) vals C.m g d = some (av,us)) : Does P w0 Ws I0 C g o a av us := by
 obtain ⟨dst,op,type,pos,after,guard⟩:=o
 simp only [chkOp] at hc
 split at hc <;> first | (cases hc; done) | skip
 rename_i t n' ps
 simp only [Bool.and_eq_true,beq_iff_eq,decide_eq_true_eq] at hc
 obtain ⟨⟨⟨⟨⟨rfl,h1⟩,h0⟩,hbig⟩,rfl⟩,hc⟩:=hc
 have hs:=Ju hf hG hc hev
 simp only [step] at hst
 split at hst
 ·rename_i hlen
  simp only [Option.map_eq_some_iff,Prod.mk.injEq] at hst
  obtain ⟨r,hr,rfl,rfl⟩:=hst
  have hp:=JpH hlen hs
  split at h1
  ·rename_i el hel
   simp only [Bool.and_eq_true,beq_iff_eq] at h1
   obtain ⟨⟨h2,h3⟩,h4⟩:=h1
   obtain ⟨cs,hz,hfl⟩:=Jbv h3
   have hcl:cs.length = sz:=by simpa [hfl] using h4
   have hrl:r.length = n':=by rw [JHq hr]; simp
   obtain ⟨y,w',hrun,k1,k2,k3⟩:=JWC (P:=P) (l:=d) hw hnew (JS hel) h2 h0 hz hfl hcl hbig hp hr hrl
   refine Does.new ?_ k1 k2 k3
   simp only [execOp]
   rw [JNN ps a.eval,Sem.run_bind,hrun]
   rfl
  ·cases h1
 ·cases hst
theorem J4l {agg:Bool} {sz:Nat} (hc:chkOp P o.op xs (.load agg sz) = true) (hev:evs G fr xs = some vals) (hf:FR C fr a) (hG:GR C G) (hw:WR w0 Ws I0 C) (hnew:¬ C.used g) (hst:step (.load agg sz) vals C.m g d = some (av,us)) : Does P w0 Ws I0 C g o a av us := by
 obtain ⟨dst,op,type,pos,after,guard⟩:=o
 simp only [chkOp] at hc
 split at hc <;> first | (cases hc; done) | skip
 rename_i t x
 simp only [Bool.and_eq_true,beq_iff_eq] at hc
 obtain ⟨⟨⟨ha,hsz⟩,hag⟩,hc⟩:=hc
 have hs:=Ju hf hG hc hev
 simp only [List.map_cons,List.map_nil] at hs
 simp only [step] at hst
 split at hst <;> first | (cases hst; done) | skip
 obtain ⟨y,e,h1⟩:=J5 hs
 simp only [List.cons.injEq,and_true] at e
 simp only [Option.map_eq_some_iff,Prod.mk.injEq] at hst
 obtain ⟨r,hr,rfl,rfl⟩:=hst
 obtain ⟨z,hrun,hv⟩:=J1M (P:=P) hw h1 ha hsz (JmG hag) hr
 exact Does.quiet hw (y:=z) (by simp [execOp,e,hrun]) hv
theorem J10 {agg:Bool} {sz:Nat} (hc:chkOp P o.op xs (.store agg sz) = true) (hev:evs G fr xs = some vals) (hf:FR C fr a) (hG:GR C G) (hw:WR w0 Ws I0 C) (hnew:¬ C.used g) (hst:step (.store agg sz) vals C.m g d = some (av,us)) : Does P w0 Ws I0 C g o a av us := by
 obtain ⟨dst,op,type,pos,after,guard⟩:=o
 simp only [chkOp] at hc
 split at hc <;> first | (cases hc; done) | skip
 rename_i t xo yo
 simp only [Bool.and_eq_true,beq_iff_eq] at hc
 obtain ⟨hsz,hc⟩:=hc
 have hs:=Ju hf hG hc hev
 simp only [List.map_cons,List.map_nil] at hs
 simp only [step] at hst
 split at hst <;> first | (cases hst; done) | skip
 obtain ⟨y,y',e,h1,h2⟩:=Jbb hs
 simp only [List.cons.injEq,and_true] at e
 obtain ⟨e1,e2⟩:=e
 simp only [Option.map_eq_some_iff,Prod.mk.injEq] at hst
 obtain ⟨⟨l,c'⟩,hr,rfl,rfl⟩:=hst
 obtain ⟨w',hrun,k1,k2⟩:=JYH (P:=P) hw h1 h2 hsz hr
 exact ⟨_,undef,w',_,by simp only [execOp,e1,e2]; simp [hrun],.inr ⟨rfl,rfl⟩,trivial,rfl,k1,k2,rfl,fun _ h=>.inl h⟩
theorem J3G (hc:chkOp P o.op xs (.nilc) = true) (hev:evs G fr xs = some vals) (hf:FR C fr a) (hG:GR C G) (hw:WR w0 Ws I0 C) (hnew:¬ C.used g) (hst:step (.nilc) vals C.m g d = some (av,us)) : Does P w0 Ws I0 C g o a av us := by
 obtain ⟨dst,op,type,pos,after,guard⟩:=o
 simp only [chkOp] at hc
 split at hc <;> first | (cases hc; done) | skip
 rename_i x
 have hs:=Ju hf hG hc hev
 simp only [List.map_cons,List.map_nil] at hs
 simp only [step] at hst
 split at hst <;> first | (cases hst; done) | skip
 obtain ⟨y,e,h1⟩:=J5 hs
 simp only [List.cons.injEq,and_true] at e
 split at hst
 ·rename_i hq
  simp only [Option.some.injEq,Prod.mk.injEq] at hst
  obtain ⟨rfl,rfl⟩:=hst
  obtain ⟨ad,rfl⟩:=JLT h1 hq
  exact Does.quiet hw (y:=.pointer (some ad)) (by simp [execOp,e]) h1
 ·cases hst
theorem J1P {fo sz:Nat} {agg:Bool} (hc:chkOp P o.op xs (.faddr fo sz agg) = true) (hev:evs G fr xs = some vals) (hf:FR C fr a) (hG:GR C G) (hw:WR w0 Ws I0 C) (hnew:¬ C.used g) (hst:step (.faddr fo sz agg) vals C.m g d = some (av,us)) : Does P w0 Ws I0 C g o a av us := by
 obtain ⟨dst,op,type,pos,after,guard⟩:=o
 simp only [chkOp] at hc
 split at hc <;> first | (cases hc; done) | skip
 rename_i s x k
 simp only [Bool.and_eq_true] at hc
 obtain ⟨hfd,hc⟩:=hc
 have hs:=Ju hf hG hc hev
 simp only [List.map_cons,List.map_nil] at hs
 simp only [step] at hst
 split at hst <;> first | (cases hst; done) | skip
 obtain ⟨y,e,h1⟩:=J5 hs
 simp only [List.cons.injEq,and_true] at e
 simp only [Option.map_eq_some_iff,Prod.mk.injEq] at hst
 obtain ⟨r,hr,rfl,rfl⟩:=hst
 split at hfd
 ·rename_i f hf'
  simp only [Bool.and_eq_true,beq_iff_eq,decide_eq_true_eq] at hfd
  obtain ⟨⟨rfl,hsz⟩,hne⟩:=hfd
  obtain ⟨fs,hfs,hk⟩:=Option.bind_eq_some_iff.1 hf'
  obtain ⟨z,hrun,hv⟩:=JZd (P:=P) h1 (Jp5 hfs) hk hsz hne hr
  exact Does.quiet hw (y:=z) (by simp [execOp,e,hrun]) hv
 ·cases hfd
theorem J1u {sz off:Nat} {agg:Bool} (hc:chkOp P o.op xs (.field agg sz off) = true) (hev:evs G fr xs = some vals) (hf:FR C fr a) (hG:GR C G) (hw:WR w0 Ws I0 C) (hnew:¬ C.used g) (hst:step (.field agg sz off) vals C.m g d = some (av,us)) : Does P w0 Ws I0 C g o a av us := by
 obtain ⟨dst,op,type,pos,after,guard⟩:=o
 simp only [chkOp] at hc
 split at hc <;> first | (cases hc; done) | skip
 rename_i s x k
 simp only [Bool.and_eq_true] at hc
 obtain ⟨hfd,hc⟩:=hc
 have hs:=Ju hf hG hc hev
 simp only [List.map_cons,List.map_nil] at hs
 simp only [step] at hst
 split at hst <;> first | (cases hst; done) | skip
 obtain ⟨y,e,h1⟩:=J5 hs
 simp only [List.cons.injEq,and_true] at e
 simp only [Option.map_eq_some_iff,Prod.mk.injEq] at hst
 obtain ⟨r,hr,rfl,rfl⟩:=hst
 split at hfd
 ·rename_i f hf'
  simp only [Bool.and_eq_true,beq_iff_eq] at hfd
  obtain ⟨⟨⟨rfl,hsz⟩,ha⟩,hag⟩:=hfd
  obtain ⟨fs,hfs,hk⟩:=Option.bind_eq_some_iff.1 hf'
  obtain ⟨z,hrun,hv⟩:=JZ1 (P:=P) h1 (Jp5 hfs) hk ha hsz (JmG hag) hr
  exact Does.quiet hw (y:=z) (by simp [execOp,e,hrun]) hv
 ·cases hfd
theorem J1r {sz:Nat} (hc:chkOp P o.op xs (.iaddr sz) = true) (hev:evs G fr xs = some vals) (hf:FR C fr a) (hG:GR C G) (hw:WR w0 Ws I0 C) (hnew:¬ C.used g) (hst:step (.iaddr sz) vals C.m g d = some (av,us)) : Does P w0 Ws I0 C g o a av us := by
 obtain ⟨dst,op,type,pos,after,guard⟩:=o
 simp only [chkOp] at hc
 split at hc <;> first | (cases hc; done) | skip
 rename_i t x i
 simp only [Bool.and_eq_true] at hc
 obtain ⟨hty,hc⟩:=hc
 have hs:=Ju hf hG hc hev
 simp only [List.map_cons,List.map_nil] at hs
 simp only [step] at hst
 split at hst <;> first | (cases hst; done) | skip
 rename_i xx kk ii
 obtain ⟨y,y',e,h1,h2⟩:=Jbb hs
 simp only [List.cons.injEq,and_true] at e
 obtain ⟨e1,e2⟩:=e
 simp only [Option.map_eq_some_iff,Prod.mk.injEq] at hst
 obtain ⟨r,hr,rfl,rfl⟩:=hst
 have b2:=SV_v h2
 subst b2
 split at hty
 ·rename_i el hel
  simp only [beq_iff_eq] at hty
  obtain ⟨z,hrun,hv⟩:=JYm (P:=P) (k:=kk) h1 (JS hel) hty hr
  exact Does.quiet hw (y:=z) (by simp only [execOp,e1,e2]; simp [hrun]) hv
 ·cases hty
theorem JTZ {N sz:Nat} {agg:Bool} (hc:chkOp P o.op xs (.iaddrArr N sz agg) = true) (hev:evs G fr xs = some vals) (hf:FR C fr a) (hG:GR C G) (hw:WR w0 Ws I0 C) (hnew:¬ C.used g) (hst:step (.iaddrArr N sz agg) vals C.m g d = some (av,us)) : Does P w0 Ws I0 C g o a av us := by
 obtain ⟨dst,op,type,pos,after,guard⟩:=o
 simp only [chkOp] at hc
 split at hc <;> first | (cases hc; done) | skip
 rename_i t x i
 simp only [Bool.and_eq_true] at hc
 obtain ⟨hty,hc⟩:=hc
 have hs:=Ju hf hG hc hev
 simp only [List.map_cons,List.map_nil] at hs
 simp only [step] at hst
 split at hst <;> first | (cases hst; done) | skip
 rename_i xx kk ii
 obtain ⟨y,y',e,h1,h2⟩:=Jbb hs
 simp only [List.cons.injEq,and_true] at e
 obtain ⟨e1,e2⟩:=e
 simp only [Option.map_eq_some_iff,Prod.mk.injEq] at hst
 obtain ⟨r,hr,rfl,rfl⟩:=hst
 have b2:=SV_v h2
 subst b2
 split at hty
 ·rename_i n el hel
  simp only [Bool.and_eq_true,beq_iff_eq] at hty
  obtain ⟨rfl,hsz⟩:=hty
  obtain ⟨z,hrun,hv⟩:=JR6 (P:=P) (k:=kk) h1 (JAj hel) hsz hr
  exact Does.quiet hw (y:=z) (by simp only [execOp,e1,e2]; simp [hrun]) hv
 ·cases hty
theorem J6p {n sz:Nat} {agg:Bool} (hc:chkOp P o.op xs (.idx agg n sz) = true) (hev:evs G fr xs = some vals) (hf:FR C fr a) (hG:GR C G) (hw:WR w0 Ws I0 C) (hnew:¬ C.used g) (hst:step (.idx agg n sz) vals C.m g d = some (av,us)) : Does P w0 Ws I0 C g o a av us := by
 obtain ⟨dst,op,type,pos,after,guard⟩:=o
 simp only [chkOp] at hc
 split at hc <;> first | (cases hc; done) | skip
 rename_i t x i
 simp only [Bool.and_eq_true] at hc
 obtain ⟨hty,hc⟩:=hc
 have hs:=Ju hf hG hc hev
 simp only [List.map_cons,List.map_nil] at hs
 simp only [step] at hst
 split at hst <;> first | (cases hst; done) | skip
 rename_i xx kk ii
 obtain ⟨y,y',e,h1,h2⟩:=Jbb hs
 simp only [List.cons.injEq,and_true] at e
 obtain ⟨e1,e2⟩:=e
 simp only [Option.map_eq_some_iff,Prod.mk.injEq] at hst
 obtain ⟨r,hr,rfl,rfl⟩:=hst
 have b2:=SV_v h2
 subst b2
 split at hty
 ·rename_i n' el hel
  simp only [Bool.and_eq_true,beq_iff_eq] at hty
  obtain ⟨⟨⟨rfl,hsz⟩,ha⟩,hag⟩:=hty
  obtain ⟨z,hrun,hv⟩:=JYU (P:=P) (k:=kk) h1 (JAj hel) ha hsz (JmG hag) hr
  exact Does.quiet hw (y:=z) (by simp only [execOp,e1,e2]; simp [hrun]) hv
 ·cases hty
theorem J4O (hc:chkOp P o.op xs (.idxS) = true) (hev:evs G fr xs = some vals) (hf:FR C fr a) (hG:GR C G) (hw:WR w0 Ws I0 C) (hnew:¬ C.used g) (hst:step (.idxS) vals C.m g d = some (av,us)) : Does P w0 Ws I0 C g o a av us := by
 obtain ⟨dst,op,type,pos,after,guard⟩:=o
 simp only [chkOp] at hc
 split at hc <;> first | (cases hc; done) | skip
 rename_i t x i
 simp only [Bool.and_eq_true] at hc
 obtain ⟨hty,hc⟩:=hc
 have hs:=Ju hf hG hc hev
 simp only [List.map_cons,List.map_nil] at hs
 simp only [step] at hst
 split at hst <;> first | (cases hst; done) | skip
 obtain ⟨y,y',e,h1,h2⟩:=Jbb hs
 simp only [List.cons.injEq,and_true] at e
 obtain ⟨e1,e2⟩:=e
 split at hst
 ·rename_i s k i' hi
  simp only [Option.map_eq_some_iff,Prod.mk.injEq] at hst
  obtain ⟨b,hb,rfl,rfl⟩:=hst
  have b1:=SV_v h1
  have b2:=SV_v h2
  subst b1 b2
  have hb':s[i'.toNat]? = some b:=by rw [JZ6?]; exact hb
  exact Does.quiet hw (y:=.int .u8 b.toNat) (by simp only [execOp,e1,e2]; simp [Instr.index,asIntOf,run_underlying (JpN hty),hi,hb']) (SV_mk rfl)
 ·cases hst
theorem J1n {sz:Nat} {l h:Bool} (hc:chkOp P o.op xs (.slice sz l h) = true) (hev:evs G fr xs = some vals) (hf:FR C fr a) (hG:GR C G) (hw:WR w0 Ws I0 C) (hnew:¬ C.used g) (hst:step (.slice sz l h) vals C.m g d = some (av,us)) : Does P w0 Ws I0 C g o a av us := by
 obtain ⟨dst,op,type,pos,after,guard⟩:=o
 simp only [chkOp] at hc
 split at hc <;> first | (cases hc; done) | skip
 rename_i t x lo hi
 simp only [Bool.and_eq_true,beq_iff_eq] at hc
 obtain ⟨⟨⟨hty,hlo⟩,hhi⟩,hc⟩:=hc
 have hs:=Ju hf hG hc hev
 simp only [List.map_cons,List.map_nil] at hs
 simp only [step] at hst
 split at hst <;> first | (cases hst; done) | skip
 simp only [SVl] at hs
 obtain ⟨y,r,e,h1,hr⟩:=hs
 simp only [List.cons.injEq] at e
 obtain ⟨e1,rfl⟩:=e
 simp only [Option.bind_eq_some_iff,Option.map_eq_some_iff,Prod.mk.injEq] at hst
 obtain ⟨q,hq,r',hr',rfl,rfl⟩:=hst
 obtain ⟨k1,k2,eb1,eb2⟩:=JNH (a:=a) hlo hhi hq hr
 split at hty
 ·rename_i el hel
  simp only [beq_iff_eq] at hty
  obtain ⟨z,hrun,hv⟩:=JZ3 (P:=P) (k1:=k1) (k2:=k2) h1 (JS hel) hty hr'
  exact Does.quiet hw (y:=z) (by simp only [execOp,e1,eb1,eb2]; simp [hrun]) hv
 ·cases hty
theorem JTY {N sz:Nat} {l h:Bool} (hc:chkOp P o.op xs (.sliceArr N sz l h) = true) (hev:evs G fr xs = some vals) (hf:FR C fr a) (hG:GR C G) (hw:WR w0 Ws I0 C) (hnew:¬ C.used g) (hst:step (.sliceArr N sz l h) vals C.m g d = some (av,us)) : Does P w0 Ws I0 C g o a av us := by
 obtain ⟨dst,op,type,pos,after,guard⟩:=o
 simp only [chkOp] at hc
 split at hc <;> first | (cases hc; done) | skip
 rename_i t x lo hi
 simp only [Bool.and_eq_true,beq_iff_eq] at hc
 obtain ⟨⟨⟨hty,hlo⟩,hhi⟩,hc⟩:=hc
 have hs:=Ju hf hG hc hev
 simp only [List.map_cons,List.map_nil] at hs
 simp only [step] at hst
 split at hst <;> first | (cases hst; done) | skip
 simp only [SVl] at hs
 obtain ⟨y,r,e,h1,hr⟩:=hs
 simp only [List.cons.injEq] at e
 obtain ⟨e1,rfl⟩:=e
 simp only [Option.bind_eq_some_iff,Option.map_eq_some_iff,Prod.mk.injEq] at hst
 obtain ⟨q,hq,r',hr',rfl,rfl⟩:=hst
 obtain ⟨k1,k2,eb1,eb2⟩:=JNH (a:=a) hlo hhi hq hr
 split at hty
 ·rename_i n el hel
  simp only [Bool.and_eq_true,beq_iff_eq] at hty
  obtain ⟨rfl,hsz⟩:=hty
  obtain ⟨z,hrun,hv⟩:=JTD (P:=P) (k1:=k1) (k2:=k2) h1 (JAj hel) hsz hr'
  exact Does.quiet hw (y:=z) (by simp only [execOp,e1,eb1,eb2]; simp [hrun]) hv
 ·cases hty
theorem JUt {l h:Bool} (hc:chkOp P o.op xs (.sliceStr l h) = true) (hev:evs G fr xs = some vals) (hf:FR C fr a) (hG:GR C G) (hw:WR w0 Ws I0 C) (hnew:¬ C.used g) (hst:step (.sliceStr l h) vals C.m g d = some (av,us)) : Does P w0 Ws I0 C g o a av us := by
 obtain ⟨dst,op,type,pos,after,guard⟩:=o
 simp only [chkOp] at hc
 split at hc <;> first | (cases hc; done) | skip
 rename_i t x lo hi
 simp only [Bool.and_eq_true,beq_iff_eq] at hc
 obtain ⟨⟨⟨hty,hlo⟩,hhi⟩,hc⟩:=hc
 have hs:=Ju hf hG hc hev
 simp only [List.map_cons,List.map_nil] at hs
 simp only [step] at hst
 split at hst <;> first | (cases hst; done) | skip
 simp only [SVl] at hs
 obtain ⟨y,r,e,h1,hr⟩:=hs
 simp only [List.cons.injEq] at e
 obtain ⟨e1,rfl⟩:=e
 simp only [Option.bind_eq_some_iff,Option.map_eq_some_iff,Prod.mk.injEq] at hst
 obtain ⟨q,hq,b,hb,rfl,rfl⟩:=hst
 obtain ⟨k1,k2,eb1,eb2⟩:=JNH (a:=a) hlo hhi hq hr
 obtain ⟨z,hrun,hv⟩:=JTH (P:=P) (k1:=k1) (k2:=k2) h1 (JpN hty) hb
 exact Does.quiet hw (y:=z) (by simp only [execOp,e1,eb1,eb2]; simp [hrun]) hv
theorem JZK {sz:Nat} (hc:chkOp P o.op xs (.slice0 sz) = true) (hev:evs G fr xs = some vals) (hf:FR C fr a) (hG:GR C G) (hw:WR w0 Ws I0 C) (hnew:¬ C.used g) (hst:step (.slice0 sz) vals C.m g d = some (av,us)) : Does P w0 Ws I0 C g o a av us := by
 obtain ⟨dst,op,type,pos,after,guard⟩:=o
 simp only [chkOp] at hc
 split at hc <;> first | (cases hc; done) | skip
 rename_i t x k h k2 h2
 simp only [Bool.and_eq_true,beq_iff_eq] at hc
 obtain ⟨⟨⟨hty,rfl⟩,rfl⟩,hc⟩:=hc
 have hs:=Ju hf hG hc hev
 simp only [List.map_cons,List.map_nil] at hs
 simp only [step] at hst
 split at hst <;> first | (cases hst; done) | skip
 obtain ⟨y,e,h1⟩:=J5 hs
 simp only [List.cons.injEq,and_true] at e
 split at hst
 ·rename_i n hn
  simp only [Option.some.injEq,Prod.mk.injEq] at hst
  obtain ⟨rfl,rfl⟩:=hst
  split at hty
  ·rename_i el hel
   simp only [beq_iff_eq] at hty
   obtain ⟨ao,cap,rfl⟩:=JPT h1 hn
   ·have hr:=hw.regen (l:=d) (g:=g) (c':=.rows g sz []) (w':=C.w) (row:=none) (B:=none) (World.grownBy.refl C.w none) rfl hnew (.inl rfl) (.inl rfl)
    have hv:SV (newAt C C.w d g none (.rows g sz [])) (.row d sz g 0 0) (.slice ao 0 0):=by
     show V _ (.row d sz g 0 0) [_]
     simp only [V]
     refine ⟨ao,0,rfl,by simp,by simp [maxLen],fun h=>by simp at h,.inr rfl,fun xs' _=>?_⟩
     unfold RowVal
     simp only [newAt,JU]
     exact ⟨trivial,trivial,ao,rfl⟩
    refine Does.new ?_ hr.1 (hr.2 (.inl ⟨by simp,rfl⟩)) hv
    simp only [execOp,Option.map_none,Option.map_some,e]
    simp [Instr.sliceAt,Instr.slice,run_underlying (JS hel),Instr.sliceBounds,Instr.sliceBound,asIntOf,JP hty,Act.eval]
  ·cases hty
 ·cases hst
theorem J60 (hc:chkOp P o.op xs (.len) = true) (hev:evs G fr xs = some vals) (hf:FR C fr a) (hG:GR C G) (hw:WR w0 Ws I0 C) (hnew:¬ C.used g) (hst:step (.len) vals C.m g d = some (av,us)) : Does P w0 Ws I0 C g o a av us := by
 obtain ⟨dst,op,type,pos,after,guard⟩:=o
 simp only [chkOp] at hc
 split at hc <;> first | (cases hc; done) | skip
 rename_i args argTypes
 simp only [Bool.and_eq_true] at hc
 obtain ⟨hty,hc⟩:=hc
 have hs:=Ju hf hG hc hev
 simp only [step] at hst
 split at hst <;> first | (cases hst; done) | skip
 obtain ⟨y,e,h1⟩:=J5 hs
 simp only [Option.map_eq_some_iff,Prod.mk.injEq] at hst
 obtain ⟨n,hn,rfl,rfl⟩:=hst
 have hargs:args.map a.eval = #[y]:=Array.ext' (by simpa using e)
 split at hty
 ·rename_i t ht
  refine Does.quiet hw (y:=.int .i64 n) ?_ (SV_mk rfl)
  simp only [execOp,resolve,invoke,builtin,Sem.run_bind,Sem.run_pure,Result.andThen_ok,hargs]
  obtain ⟨el,hel⟩:=Option.isSome_iff_exists.1 hty
  obtain ⟨ao,cap,rfl⟩:=JPT h1 hn
  simp [Builtin.len_,ht,run_underlying (JS hel),goInt]
 ·cases hty
theorem J46 (hc:chkOp P o.op xs (.lenS) = true) (hev:evs G fr xs = some vals) (hf:FR C fr a) (hG:GR C G) (hw:WR w0 Ws I0 C) (hnew:¬ C.used g) (hst:step (.lenS) vals C.m g d = some (av,us)) : Does P w0 Ws I0 C g o a av us := by
 obtain ⟨dst,op,type,pos,after,guard⟩:=o
 simp only [chkOp] at hc
 split at hc <;> first | (cases hc; done) | skip
 rename_i args argTypes
 simp only [Bool.and_eq_true] at hc
 obtain ⟨hty,hc⟩:=hc
 have hs:=Ju hf hG hc hev
 simp only [step] at hst
 split at hst <;> first | (cases hst; done) | skip
 obtain ⟨y,e,h1⟩:=J5 hs
 simp only [Option.some.injEq,Prod.mk.injEq] at hst
 obtain ⟨rfl,rfl⟩:=hst
 have hargs:args.map a.eval = #[y]:=Array.ext' (by simpa using e)
 split at hty
 ·rename_i t ht
  have b1:=SV_v h1
  subst b1
  refine Does.quiet hw (y:=.int .i64 _) ?_ (SV_mk rfl)
  simp only [execOp,resolve,invoke,builtin,Sem.run_bind,Sem.run_pure,Result.andThen_ok,hargs]
  simp [Builtin.len_,ht,run_underlying (JpN hty),goInt]
 ·cases hty
theorem J54 {sz bytes:Nat} (hc:chkOp P o.op xs (.app sz bytes) = true) (hev:evs G fr xs = some vals) (hf:FR C fr a) (hG:GR C G) (hw:WR w0 Ws I0 C) (hnew:¬ C.used g) (hst:step (.app sz bytes) vals C.m g d = some (av,us)) : Does P w0 Ws I0 C g o a av us := by
 obtain ⟨dst,op,type,pos,after,guard⟩:=o
 simp only [chkOp] at hc
 split at hc <;> first | (cases hc; done) | skip
 rename_i args argTypes
 simp only [Bool.and_eq_true] at hc
 obtain ⟨hty,hc⟩:=hc
 have hs:=Ju hf hG hc hev
 simp only [step] at hst
 split at hst <;> first | (cases hst; done) | skip
 obtain ⟨y,y',e,h1,h2⟩:=Jbb hs
 simp only [Option.bind_eq_some_iff] at hst
 obtain ⟨ys,hy,⟨l,zs⟩,hd,hst⟩:=hst
 split at hst
 ·rename_i hbd
  simp only [Option.some.injEq,Prod.mk.injEq] at hst
  obtain ⟨rfl,rfl⟩:=hst
  have hargs:args.map a.eval = #[y,y']:=Array.ext' (by simpa using e)
  split at hty
  ·rename_i t t' htt
   simp only [Bool.and_eq_true] at hty
   obtain ⟨el,hel⟩:=JLd hty.1
   obtain ⟨el',hel'⟩:=Option.isSome_iff_exists.1 hty.2
   obtain ⟨ao',cap',news,rfl,q1,q2,q3,q4⟩:=JR8 hw h2 hy
   have hsrc:=J6i (P:=P) (tx:=t') (ao:=ao') (cap:=cap') (w:=C.w) (JS hel') q3 (q4.imp id fun ⟨b,o,h1,h2,_⟩=>⟨b,o,h1,h2⟩)
   have hat:argTypes = #[t,t']:=Array.ext' (by simpa using htt)
   unfold destV at hd
   split at hd
   ·rename_i lv gv off s n cap
    split at hd
    ·rename_i hc
     obtain ⟨rfl,hn0,hys⟩:=hc
     simp only [Option.map_eq_some_iff,Prod.mk.injEq] at hd
     obtain ⟨xs,hxs,rfl,rfl⟩:=hd
     obtain ⟨ao,cap,olds,e0,p1,p2,p3,p4⟩:=JR8 hw h1 hxs
     have hp':V C (.vrow lv gv off s n n) [y]:=h1
     simp only [V] at hp'
     obtain ⟨ad,e1,_,_,_,_⟩:=hp'
     obtain rfl:=(List.cons.inj e1).1
     obtain ⟨rfl,e2,rfl⟩:=(by simpa using e0:some ad = ao ∧ n = xs.length ∧ n = cap)
     have hxl:0 < xs.length:=by omega
     rcases p4 with rfl | ⟨b,o,e3,hcell,_⟩
     ·simp at hxl
     ·obtain rfl:=Option.some.inj e3
      obtain ⟨z,w',B,hrun,k1,k2,k3⟩:=JUS (ty:=type) (t:=t) (l:=d) hw hnew hel p3 hcell e2 (List.length_pos_iff.2 hys) (.inl hsrc) q3 (by rw [e2]; exact hbd.1) (by rw [e2]; exact hbd.2)
      rw [e2] at k3
      refine Does.new ?_ k1 k2 k3
      rw [e2] at hargs hrun
      simp only [execOp,resolve,invoke,builtin,Sem.run_bind,Sem.run_pure,Result.andThen_ok,hargs,hat,hrun]
    ·cases hd
   ·obtain ⟨ao,cap,rfl,hdest⟩:=JUk hw h1 hd
    obtain ⟨z,w',B,hrun,k1,k2,k3⟩:=JK2 (ty:=type) (t:=t) hw hnew hel hdest (.inl hsrc) q3 hbd.1 hbd.2
    refine Does.new ?_ k1 k2 k3
    simp only [execOp,resolve,invoke,builtin,Sem.run_bind,Sem.run_pure,Result.andThen_ok,hargs,hat,hrun]
  ·cases hty
 ·cases hst
theorem J3Q {bytes:Nat} (hc:chkOp P o.op xs (.appS bytes) = true) (hev:evs G fr xs = some vals) (hf:FR C fr a) (hG:GR C G) (hw:WR w0 Ws I0 C) (hnew:¬ C.used g) (hst:step (.appS bytes) vals C.m g d = some (av,us)) : Does P w0 Ws I0 C g o a av us := by
 obtain ⟨dst,op,type,pos,after,guard⟩:=o
 simp only [chkOp] at hc
 split at hc <;> first | (cases hc; done) | skip
 rename_i args argTypes
 simp only [Bool.and_eq_true] at hc
 obtain ⟨hty,hc⟩:=hc
 have hs:=Ju hf hG hc hev
 simp only [step] at hst
 split at hst <;> first | (cases hst; done) | skip
 rename_i aa ss
 obtain ⟨y,y',e,h1,h2⟩:=Jbb hs
 simp only [Option.bind_eq_some_iff] at hst
 obtain ⟨⟨l,zs⟩,hd,hst⟩:=hst
 split at hst
 ·rename_i hbd
  simp only [Option.some.injEq,Prod.mk.injEq] at hst
  obtain ⟨rfl,rfl⟩:=hst
  have hargs:args.map a.eval = #[y,y']:=Array.ext' (by simpa using e)
  split at hty
  ·rename_i t t' htt
   simp only [Bool.and_eq_true] at hty
   obtain ⟨el,hel⟩:=JLd hty.1
   obtain ⟨ao,cap,rfl,hdest⟩:=JUk hw h1 hd
   have b2:=SV_v h2
   subst b2
   have hlen:(bytesAV ss).length = ss.size:=by simp [bytesAV]
   have hsrc:Src P 1 t' (.string ss) (bytesAV ss).length (byteCells ss) C.w:=by rw [hlen]; exact Src.ofString C.w (JpN hty.2) ss
   obtain ⟨z,w',B,hrun,k1,k2,k3⟩:=JK2 (ty:=type) (t:=t) hw hnew hel hdest (.inl hsrc) (JVZ ss) hbd.1 hbd.2
   have hat:argTypes = #[t,t']:=Array.ext' (by simpa using htt)
   refine Does.new ?_ k1 k2 k3
   simp only [execOp,resolve,invoke,builtin,Sem.run_bind,Sem.run_pure,Result.andThen_ok,hargs,hat,hrun]
  ·cases hty
 ·cases hst
theorem J3N {sz bytes:Nat} {z:AV} (hc:chkOp P o.op xs (.appM sz bytes z) = true) (hev:evs G fr xs = some vals) (hf:FR C fr a) (hG:GR C G) (hw:WR w0 Ws I0 C) (hnew:¬ C.used g) (hst:step (.appM sz bytes z) vals C.m g d = some (av,us)) : Does P w0 Ws I0 C g o a av us := by
 obtain ⟨dst,op,type,pos,after,guard⟩:=o
 simp only [chkOp] at hc
 split at hc <;> first | (cases hc; done) | skip
 rename_i args argTypes
 simp only [Bool.and_eq_true] at hc
 obtain ⟨hty,hc⟩:=hc
 have hs:=Ju hf hG hc hev
 simp only [step] at hst
 split at hst <;> first | (cases hst; done) | skip
 rename_i aa kk ki
 obtain ⟨y,y',e,h1,h2⟩:=Jbb hs
 split at hst
 ·rename_i hk
  obtain ⟨hk0,hkm,hkb⟩:=hk
  simp only [Option.bind_eq_some_iff] at hst
  obtain ⟨⟨l,zs⟩,hd,hst⟩:=hst
  split at hst
  ·rename_i hbd
   simp only [Option.some.injEq,Prod.mk.injEq] at hst
   obtain ⟨rfl,rfl⟩:=hst
   have hargs:args.map a.eval = #[y,y']:=Array.ext' (by simpa using e)
   split at hty
   ·rename_i t t' htt
    simp only [Bool.and_eq_true] at hty
    obtain ⟨⟨hel0,hint⟩,hzz⟩:=hty
    obtain ⟨el,hel⟩:=JLd hel0
    obtain ⟨ik,hik⟩:=Option.isSome_iff_exists.1 hint
    split at hzz
    ·rename_i el' hsl
     simp only [Bool.and_eq_true,beq_iff_eq] at hzz
     obtain ⟨hz1,hz2⟩:=hzz
     have hee:el' = el:=by
      have h3:=JS hsl
      rw [hel.ht] at h3
      simpa using h3.symm
     subst hee
     obtain ⟨cs,hcs1,hcs2⟩:=Jbv hz1
     have hcl:cs.length = sz:=by simpa [hcs2] using hz2
     obtain ⟨ao,cap,rfl,hdest⟩:=JUk hw h1 hd
     have b2:=SV_v h2
     subst b2
     obtain ⟨n,rfl⟩:∃ n:Nat,ki = n:=⟨ki.toNat,by omega⟩
     simp only [Int.toNat_natCast] at *
     have hE:Es C sz (List.replicate n z) (Builtin.zeroCells cs.toArray n).toList:=by
      obtain ⟨inf,zv,hi,hiz,hzc⟩:=JNB hcs1
      have:=JHB (C:=C) (z:=zv) (av:=z) (sz:=sz) (by rw [hzc]; exact hcs2) (by rw [← hcl,← hzc]; simp) hel.h0 n
      rwa [show zv.cells = cs.toArray by rw [← hzc]] at this
     have hwr:IntKind.i64.wrap (n:Int) = (n:Int):=by rw [IntKind.wrap_i64]; unfold maxLen at hkm; omega
     have hsrc:Mk0 P sz t' el' (.int kk n) (List.replicate n z).length (Builtin.zeroCells cs.toArray n).toList:=by
      rw [List.length_replicate]
      exact ⟨⟨ik,JpO hik⟩,⟨kk,n,rfl,hwr⟩,⟨bytes,hel.hb,hkb⟩,⟨cs,hcs1,hcl,rfl,hel.h0⟩,by have:=Jw hE; rwa [List.length_replicate] at this,JpF _ _ _ hE⟩
     obtain ⟨zz,w',B,hrun,k1,k2,k3⟩:=JK2 (ty:=type) (t:=t) hw hnew hel hdest (.inr hsrc) hE (by rw [List.length_replicate]; exact hbd.1) (by rw [List.length_replicate]; exact hbd.2)
     have hat:argTypes = #[t,t']:=Array.ext' (by simpa using htt)
     rw [List.length_replicate] at k3
     refine Does.new ?_ k1 k2 k3
     simp only [execOp,resolve,invoke,builtin,Sem.run_bind,Sem.run_pure,Result.andThen_ok,hargs,hat,hrun]
    ·cases hzz
   ·cases hty
  ·cases hst
 ·cases hst
theorem J3w {sz:Nat} (hc:chkOp P o.op xs (.copy sz) = true) (hev:evs G fr xs = some vals) (hf:FR C fr a) (hG:GR C G) (hw:WR w0 Ws I0 C) (hnew:¬ C.used g) (hst:step (.copy sz) vals C.m g d = some (av,us)) : Does P w0 Ws I0 C g o a av us := by
 obtain ⟨dst,op,type,pos,after,guard⟩:=o
 simp only [chkOp] at hc
 split at hc <;> first | (cases hc; done) | skip
 rename_i args argTypes
 simp only [Bool.and_eq_true] at hc
 obtain ⟨hty,hc⟩:=hc
 have hs:=Ju hf hG hc hev
 simp only [step] at hst
 split at hst <;> first | (cases hst; done) | skip
 obtain ⟨y,y',e,h1,h2⟩:=Jbb hs
 simp only [Option.bind_eq_some_iff,Option.map_eq_some_iff,Prod.mk.injEq] at hst
 obtain ⟨ys,hy,⟨l,c'⟩,hov,rfl,rfl⟩:=hst
 have hargs:args.map a.eval = #[y,y']:=Array.ext' (by simpa using e)
 split at hty
 ·rename_i t t' htt
  split at hty
  ·rename_i el hel
   simp only [beq_iff_eq] at hty
   obtain ⟨w',hrun,k1,k2⟩:=J12 (P:=P) (ty:=type) (sT:=t') hw (JS hel) hty h1 h2 hy hov
   have hat:argTypes = #[t,t']:=Array.ext' (by simpa using htt)
   exact ⟨_,_,w',_,by simp only [execOp,resolve,invoke,builtin,Sem.run_bind,Sem.run_pure,Result.andThen_ok,hargs,hat,hrun],.inl rfl,SV_mk rfl,rfl,k1,k2,rfl,fun _ h=>.inl h⟩
  ·cases hty
 ·cases hty
theorem J0L {sz:Nat} {z:AV} (hc:chkOp P o.op xs (.clear sz z) = true) (hev:evs G fr xs = some vals) (hf:FR C fr a) (hG:GR C G) (hw:WR w0 Ws I0 C) (hnew:¬ C.used g) (hst:step (.clear sz z) vals C.m g d = some (av,us)) : Does P w0 Ws I0 C g o a av us := by
 obtain ⟨dst,op,type,pos,after,guard⟩:=o
 simp only [chkOp] at hc
 split at hc <;> first | (cases hc; done) | skip
 rename_i args argTypes
 simp only [Bool.and_eq_true,decide_eq_true_eq] at hc
 obtain ⟨⟨hty,h0⟩,hc⟩:=hc
 have hs:=Ju hf hG hc hev
 simp only [step] at hst
 split at hst <;> first | (cases hst; done) | skip
 obtain ⟨y,e,h1⟩:=J5 hs
 simp only [Option.map_eq_some_iff,Prod.mk.injEq] at hst
 obtain ⟨⟨l,c'⟩,hov,rfl,rfl⟩:=hst
 have hargs:args.map a.eval = #[y]:=Array.ext' (by simpa using e)
 split at hty
 ·rename_i t htt
  split at hty
  ·rename_i el hel
   simp only [Bool.and_eq_true,beq_iff_eq] at hty
   obtain ⟨cs,hz,hfl⟩:=Jbv hty.1
   have hcl:cs.length = sz:=by simpa [hfl] using hty.2
   obtain ⟨w',hrun,k1,k2⟩:=JZA (P:=P) (ty:=type) hw (JS hel) hz hfl hcl h0 h1 hov
   have hat:argTypes = #[t]:=Array.ext' (by simpa using htt)
   exact ⟨_,.tuple #[],w',_,by simp only [execOp,resolve,invoke,builtin,Sem.run_bind,Sem.run_pure,Result.andThen_ok,hargs,hat,hrun],.inl rfl,trivial,rfl,k1,k2,rfl,fun _ h=>.inl h⟩
  ·cases hty
 ·cases hty
theorem ok_mk {sz bytes:Nat} {z:AV} (hc:chkOp P o.op xs (.mk sz bytes z) = true) (hev:evs G fr xs = some vals) (hf:FR C fr a) (hG:GR C G) (hw:WR w0 Ws I0 C) (hnew:¬ C.used g) (hst:step (.mk sz bytes z) vals C.m g d = some (av,us)) : Does P w0 Ws I0 C g o a av us := by
 obtain ⟨dst,op,type,pos,after,guard⟩:=o
 simp only [chkOp] at hc
 split at hc <;> first | (cases hc; done) | skip
 rename_i t lo co
 simp only [Bool.and_eq_true,decide_eq_true_eq] at hc
 obtain ⟨⟨hty,h0⟩,hc⟩:=hc
 have hs:=Ju hf hG hc hev
 simp only [List.map_cons,List.map_nil] at hs
 simp only [step] at hst
 split at hst <;> first | (cases hst; done) | skip
 rename_i kk _ kk2 _
 obtain ⟨y,y',e,h1,h2⟩:=Jbb hs
 simp only [List.cons.injEq,and_true] at e
 obtain ⟨e1,e2⟩:=e
 split at hst
 ·rename_i hcc
  simp only [Option.some.injEq,Prod.mk.injEq] at hst
  obtain ⟨rfl,rfl⟩:=hst
  obtain ⟨rfl,hpos,hby,hmx⟩:=hcc
  have b1:=SV_v h1
  have b2:=SV_v h2
  subst b1 b2
  split at hty
  ·rename_i el hel
   simp only [Bool.and_eq_true,beq_iff_eq] at hty
   obtain ⟨⟨⟨hsz,hcz⟩,hcl⟩,hbt⟩:=hty
   obtain ⟨cs,hz,hfl⟩:=Jbv hcz
   have hcl':cs.length = sz:=by simpa [hfl] using hcl
   obtain ⟨N,rfl⟩:=Int.eq_ofNat_of_zero_le hpos
   simp only [Int.toNat_natCast] at hby hmx
   obtain ⟨y,w',hrun,k1,k2,k3⟩:=J0P (P:=P) (l:=d) (k1:=kk) (k2:=kk2) hw hnew (JS hel) hsz h0 hz hfl hcl' hbt hby hmx
   refine Does.new ?_ k1 k2 k3
   simp only [execOp,e1,e2]
   rw [Sem.run_bind,hrun]
   rfl
  ·cases hty
 ·cases hst
theorem J6x {k:Nat} (hc:chkOp P o.op xs (.ext k) = true) (hev:evs G fr xs = some vals) (hf:FR C fr a) (hG:GR C G) (hw:WR w0 Ws I0 C) (hnew:¬ C.used g) (hst:step (.ext k) vals C.m g d = some (av,us)) : Does P w0 Ws I0 C g o a av us := by
 obtain ⟨dst,op,type,pos,after,guard⟩:=o
 simp only [chkOp] at hc
 split at hc <;> first | (cases hc; done) | skip
 rename_i x k2
 simp only [Bool.and_eq_true,beq_iff_eq] at hc
 obtain ⟨rfl,hc⟩:=hc
 have hs:=Ju hf hG hc hev
 simp only [List.map_cons,List.map_nil] at hs
 simp only [step] at hst
 split at hst <;> first | (cases hst; done) | skip
 obtain ⟨y,e,h1⟩:=J5 hs
 simp only [List.cons.injEq,and_true] at e
 simp only [Option.map_eq_some_iff,Prod.mk.injEq] at hst
 obtain ⟨r,hr,rfl,rfl⟩:=hst
 obtain ⟨zs,rfl,hzs⟩:=h1
 obtain ⟨v,hv1,hv2⟩:=JYz hzs hr
 refine Does.quiet hw (y:=v) ?_ (JV2 hv2)
 simp only [execOp,e,Instr.extract]
 simp at hv1
 simp [hv1]
theorem ok_mx (hc:chkOp P o.op xs (.mx) = true) (hev:evs G fr xs = some vals) (hf:FR C fr a) (hG:GR C G) (hw:WR w0 Ws I0 C) (hnew:¬ C.used g) (hst:step (.mx) vals C.m g d = some (av,us)) : Does P w0 Ws I0 C g o a av us := by
 obtain ⟨dst,op,type,pos,after,guard⟩:=o
 simp only [chkOp] at hc
 split at hc <;> first | (cases hc; done) | skip
 rename_i args _
 have hs:=Ju hf hG hc hev
 simp only [step] at hst
 split at hst <;> first | (cases hst; done) | skip
 obtain ⟨y,y',e,h1,h2⟩:=Jbb hs
 simp only [Option.some.injEq,Prod.mk.injEq] at hst
 obtain ⟨rfl,rfl⟩:=hst
 have hargs:args.map a.eval = #[y,y']:=Array.ext' (by simpa using e)
 have b1:=SV_v h1
 have b2:=SV_v h2
 subst b1 b2
 refine Does.quiet hw (y:=.int _ _) ?_ (SV_mk rfl)
 simp only [execOp,resolve,invoke,builtin,Sem.run_bind,Sem.run_pure,Result.andThen_ok,hargs]
 simp [Builtin.max_,Builtin.max2]
theorem ok_mn (hc:chkOp P o.op xs (.mn) = true) (hev:evs G fr xs = some vals) (hf:FR C fr a) (hG:GR C G) (hw:WR w0 Ws I0 C) (hnew:¬ C.used g) (hst:step (.mn) vals C.m g d = some (av,us)) : Does P w0 Ws I0 C g o a av us := by
 obtain ⟨dst,op,type,pos,after,guard⟩:=o
 simp only [chkOp] at hc
 split at hc <;> first | (cases hc; done) | skip
 rename_i args _
 have hs:=Ju hf hG hc hev
 simp only [step] at hst
 split at hst <;> first | (cases hst; done) | skip
 obtain ⟨y,y',e,h1,h2⟩:=Jbb hs
 simp only [Option.some.injEq,Prod.mk.injEq] at hst
 obtain ⟨rfl,rfl⟩:=hst
 have hargs:args.map a.eval = #[y,y']:=Array.ext' (by simpa using e)
 have b1:=SV_v h1
 have b2:=SV_v h2
 subst b1 b2
 refine Does.quiet hw (y:=.int _ _) ?_ (SV_mk rfl)
 simp only [execOp,resolve,invoke,builtin,Sem.run_bind,Sem.run_pure,Result.andThen_ok,hargs]
 simp [Builtin.min_,Builtin.min2]
theorem JZx {x x' x'':AV} {ys:List Value} (h:SVl C [x,x',x''] ys) : ∃ y y' y'',ys = [y,y',y''] ∧ SV C x y ∧ SV C x' y' ∧ SV C x'' y'' := by
 simp only [SVl] at h
 obtain ⟨y,r,rfl,h1,y',r',rfl,h2,y'',r'',rfl,h3,rfl⟩:=h
 exact ⟨y,y',y'',rfl,h1,h2,h3⟩
theorem JYy {t:TypeId} {z:AV} (h:zeroIs P t z = true) (w:World) : ∃ zv,(zeroValue t).run P w = .ok zv w ∧ SV1 C z zv := by
 unfold zeroIs at h
 split at h <;> first | (cases h; done) | skip
 ·rename_i cs hz
  simp only [Bool.and_eq_true] at h
  obtain ⟨hag,hce⟩:=h
  obtain ⟨ds,e1,e2⟩:=Jbv hce
  obtain ⟨i,hi,hz⟩:=Option.bind_eq_some_iff.1 hz
  refine ⟨.agg cs,by simp [zeroValue,typeInfo,hi,hz],?_⟩
  have hv:=JP1 (C:=C) z _ e2
  obtain rfl:=Option.some.inj e1
  cases z <;> simp [AV.isAgg] at hag <;> exact ⟨cs,rfl,hv⟩
 ·rename_i v hnagg hz
  simp only [Bool.and_eq_true,Bool.not_eq_true'] at h
  obtain ⟨⟨hag,hso⟩,hce⟩:=h
  obtain ⟨ds,e1,e2⟩:=Jbv hce
  obtain ⟨i,hi,hz⟩:=Option.bind_eq_some_iff.1 hz
  refine ⟨v,by simp [zeroValue,typeInfo,hi,hz],?_⟩
  have hv:=JP1 (C:=C) z _ e2
  obtain rfl:=Option.some.inj e1
  cases z <;> simp [AV.isAgg] at hag <;> simp [AV.solid] at hso <;> exact hv
theorem J03 {ka va:Bool} {ks vs:Nat} (hc:chkOp P o.op xs (.mkmap ka ks va vs) = true) (hev:evs G fr xs = some vals) (hf:FR C fr a) (hG:GR C G) (hw:WR w0 Ws I0 C) (hnew:¬ C.used g) (hst:step (.mkmap ka ks va vs) vals C.m g d = some (av,us)) : Does P w0 Ws I0 C g o a av us := by
 obtain ⟨dst,op,type,pos,after,guard⟩:=o
 simp only [chkOp] at hc
 split at hc <;> first | (cases hc; done) | skip
 rename_i t
 simp only [step] at hst
 split at hst <;> first | (cases hst; done) | skip
 simp only [Option.some.injEq,Prod.mk.injEq] at hst
 obtain ⟨rfl,rfl⟩:=hst
 obtain ⟨y,w',hr,k1,k2,k3⟩:=JZb (P:=P) (l:=d) (t:=t) (ka:=ka) (ks:=ks) (va:=va) (vs:=vs) hw hnew
 exact Does.new (by simp [execOp,hr]) k1 k2 k3
theorem J04 {sh:Sh} {z:AV} {ok:Bool} (hc:chkOp P o.op xs (.mlook sh z ok) = true) (hev:evs G fr xs = some vals) (hf:FR C fr a) (hG:GR C G) (hw:WR w0 Ws I0 C) (hnew:¬ C.used g) (hst:step (.mlook sh z ok) vals C.m g d = some (av,us)) : Does P w0 Ws I0 C g o a av us := by
 obtain ⟨dst,op,type,pos,after,guard⟩:=o
 simp only [chkOp] at hc
 split at hc <;> first | (cases hc; done) | skip
 rename_i t x i ok'
 simp only [Bool.and_eq_true,beq_iff_eq] at hc
 obtain ⟨⟨rfl,hty⟩,hc⟩:=hc
 split at hty <;> first | (cases hty; done) | skip
 rename_i kt et hmap
 simp only [Bool.and_eq_true,decide_eq_true_eq] at hty
 obtain ⟨⟨hsh,hdep⟩,hz⟩:=hty
 have hs:=Ju hf hG hc hev
 simp only [List.map_cons,List.map_nil] at hs
 simp only [step] at hst
 split at hst <;> first | (cases hst; done) | skip
 obtain ⟨y,y',e,h1,h2⟩:=Jbb hs
 simp only [List.cons.injEq,and_true] at e
 obtain ⟨e1,e2⟩:=e
 simp only [Option.map_eq_some_iff,Prod.mk.injEq] at hst
 obtain ⟨r,hr,rfl,rfl⟩:=hst
 have hlk:=J0M (P:=P) hw (JAo hmap) hsh hdep h1 h2 hr ok
 have hres:∃ u,(Instr.lookup t y y' ok).run P C.w = .ok (if ok then .tuple #[u,.bool r.isSome] else u) C.w ∧ SV1 C (r.getD z) u:=by
  cases r with
  | some v=>exact hlk
  | none =>
    obtain ⟨zv,q1,q2⟩:=JYy (C:=C) hz C.w
    exact ⟨zv,hlk zv q1,q2⟩
 obtain ⟨u,hrun,hu⟩:=hres
 refine Does.quiet hw (y:=if ok then .tuple #[u,.bool r.isSome] else u) (by simp only [execOp,e1,e2]; simp [hrun]) ?_
 cases ok with
 | true=>exact ⟨#[u,.bool r.isSome],rfl,u,_,rfl,hu,.bool r.isSome,_,rfl,(show V C (.v _) [_] by simp [V,Value.oneCell']),rfl⟩
 | false=>exact JV2 hu
theorem J41 {sh:Sh} (hc:chkOp P o.op xs (.mput sh) = true) (hev:evs G fr xs = some vals) (hf:FR C fr a) (hG:GR C G) (hw:WR w0 Ws I0 C) (hnew:¬ C.used g) (hst:step (.mput sh) vals C.m g d = some (av,us)) : Does P w0 Ws I0 C g o a av us := by
 obtain ⟨dst,op,type,pos,after,guard⟩:=o
 simp only [chkOp] at hc
 split at hc <;> first | (cases hc; done) | skip
 rename_i t xo ko vo
 simp only [Bool.and_eq_true] at hc
 obtain ⟨hty,hc⟩:=hc
 split at hty <;> first | (cases hty; done) | skip
 rename_i kt et hmap
 simp only [Bool.and_eq_true,decide_eq_true_eq] at hty
 have hs:=Ju hf hG hc hev
 simp only [List.map_cons,List.map_nil] at hs
 simp only [step] at hst
 split at hst <;> first | (cases hst; done) | skip
 obtain ⟨y,y',y'',e,h1,h2,h3⟩:=JZx hs
 simp only [List.cons.injEq,and_true] at e
 obtain ⟨e1,e2,e3⟩:=e
 simp only [Option.map_eq_some_iff,Prod.mk.injEq] at hst
 obtain ⟨⟨l,c'⟩,hr,rfl,rfl⟩:=hst
 obtain ⟨w',hrun,k1,k2⟩:=J3h (P:=P) hw (JAo hmap) hty.1 hty.2 h1 h2 h3 hr
 exact ⟨_,undef,w',_,by simp only [execOp,e1,e2,e3]; simp [hrun],.inr ⟨rfl,rfl⟩,trivial,rfl,k1,k2,rfl,fun _ h=>.inl h⟩
theorem J3L {sh:Sh} (hc:chkOp P o.op xs (.mdel sh) = true) (hev:evs G fr xs = some vals) (hf:FR C fr a) (hG:GR C G) (hw:WR w0 Ws I0 C) (hnew:¬ C.used g) (hst:step (.mdel sh) vals C.m g d = some (av,us)) : Does P w0 Ws I0 C g o a av us := by
 obtain ⟨dst,op,type,pos,after,guard⟩:=o
 simp only [chkOp] at hc
 split at hc <;> first | (cases hc; done) | skip
 rename_i args argTypes
 simp only [Bool.and_eq_true] at hc
 obtain ⟨hty,hc⟩:=hc
 split at hty <;> first | (cases hty; done) | skip
 rename_i t ht
 split at hty <;> first | (cases hty; done) | skip
 rename_i kt et hmap
 simp only [Bool.and_eq_true,decide_eq_true_eq] at hty
 have hs:=Ju hf hG hc hev
 simp only [step] at hst
 split at hst <;> first | (cases hst; done) | skip
 obtain ⟨y,y',e,h1,h2⟩:=Jbb hs
 simp only [Option.map_eq_some_iff,Prod.mk.injEq] at hst
 obtain ⟨⟨l,c'⟩,hr,rfl,rfl⟩:=hst
 have hargs:args.map a.eval = #[y,y']:=Array.ext' (by simpa using e)
 obtain ⟨w',hrun,k1,k2⟩:=J3x (P:=P) (ty:=type) hw ht (JAo hmap) hty.1 hty.2 h1 h2 hr
 refine ⟨.value (.tuple #[]),.tuple #[],w',_,?_,.inl rfl,trivial,rfl,k1,k2,rfl,fun _ h=>.inl h⟩
 simp only [execOp,resolve,invoke,builtin,Sem.run_bind,Sem.run_pure,Result.andThen_ok,hargs,hrun]
theorem J4F (hc:chkOp P o.op xs (.mlen) = true) (hev:evs G fr xs = some vals) (hf:FR C fr a) (hG:GR C G) (hw:WR w0 Ws I0 C) (hnew:¬ C.used g) (hst:step (.mlen) vals C.m g d = some (av,us)) : Does P w0 Ws I0 C g o a av us := by
 obtain ⟨dst,op,type,pos,after,guard⟩:=o
 simp only [chkOp] at hc
 split at hc <;> first | (cases hc; done) | skip
 rename_i args argTypes
 simp only [Bool.and_eq_true] at hc
 obtain ⟨hty,hc⟩:=hc
 split at hty <;> first | (cases hty; done) | skip
 rename_i t ht
 obtain ⟨⟨kt,et⟩,hmap⟩:=Option.isSome_iff_exists.1 hty
 have hs:=Ju hf hG hc hev
 simp only [step] at hst
 split at hst <;> first | (cases hst; done) | skip
 obtain ⟨y,e,h1⟩:=J5 hs
 simp only [Option.map_eq_some_iff,Prod.mk.injEq] at hst
 obtain ⟨n,hn,rfl,rfl⟩:=hst
 have hargs:args.map a.eval = #[y]:=Array.ext' (by simpa using e)
 have hrun:=J02 (P:=P) (ty:=type) hw ht (JAo hmap) h1 hn
 refine Does.quiet hw (y:=.int .i64 n) ?_ (SV_mk rfl)
 simp only [execOp,resolve,invoke,builtin,Sem.run_bind,Sem.run_pure,Result.andThen_ok,hargs,hrun]
theorem JZM (hc:chkOp P o.op xs (.mclear) = true) (hev:evs G fr xs = some vals) (hf:FR C fr a) (hG:GR C G) (hw:WR w0 Ws I0 C) (hnew:¬ C.used g) (hst:step (.mclear) vals C.m g d = some (av,us)) : Does P w0 Ws I0 C g o a av us := by
 obtain ⟨dst,op,type,pos,after,guard⟩:=o
 simp only [chkOp] at hc
 split at hc <;> first | (cases hc; done) | skip
 rename_i args argTypes
 simp only [Bool.and_eq_true] at hc
 obtain ⟨hty,hc⟩:=hc
 split at hty <;> first | (cases hty; done) | skip
 rename_i t ht
 obtain ⟨⟨kt,et⟩,hmap⟩:=Option.isSome_iff_exists.1 hty
 have hs:=Ju hf hG hc hev
 simp only [step] at hst
 split at hst <;> first | (cases hst; done) | skip
 obtain ⟨y,e,h1⟩:=J5 hs
 simp only [Option.map_eq_some_iff,Prod.mk.injEq] at hst
 obtain ⟨⟨l,c'⟩,hr,rfl,rfl⟩:=hst
 have hargs:args.map a.eval = #[y]:=Array.ext' (by simpa using e)
 obtain ⟨w',hrun,k1,k2⟩:=JWT (P:=P) (ty:=type) hw ht (JAo hmap) h1 hr
 refine ⟨.value (.tuple #[]),.tuple #[],w',_,?_,.inl rfl,trivial,rfl,k1,k2,rfl,fun _ h=>.inl h⟩
 simp only [execOp,resolve,invoke,builtin,Sem.run_bind,Sem.run_pure,Result.andThen_ok,hargs,hrun]
theorem JZY (hc:chkOp P o.op xs (.mrange) = true) (hev:evs G fr xs = some vals) (hf:FR C fr a) (hG:GR C G) (hw:WR w0 Ws I0 C) (hnew:¬ C.used g) (hst:step (.mrange) vals C.m g d = some (av,us)) : Does P w0 Ws I0 C g o a av us := by
 obtain ⟨dst,op,type,pos,after,guard⟩:=o
 simp only [chkOp] at hc
 split at hc <;> first | (cases hc; done) | skip
 rename_i t x
 simp only [Bool.and_eq_true] at hc
 obtain ⟨hty,hc⟩:=hc
 obtain ⟨⟨kt,et⟩,hmap⟩:=Option.isSome_iff_exists.1 hty
 have hs:=Ju hf hG hc hev
 simp only [List.map_cons,List.map_nil] at hs
 simp only [step] at hst
 split at hst <;> first | (cases hst; done) | skip
 obtain ⟨y,e,h1⟩:=J5 hs
 simp only [List.cons.injEq,and_true] at e
 simp only [Option.map_eq_some_iff,Prod.mk.injEq] at hst
 obtain ⟨q,hq,rfl,rfl⟩:=hst
 obtain ⟨z,w',hr,k1,k2,k3⟩:=J0f (P:=P) (l':=d) hw (JAo hmap) h1 hq hnew
 exact Does.new (by simp only [execOp,e]; simp [hr]) k1 k2 k3
end
end
section
open Go
mutual
def plain : AV → Bool
 | .top=>true
 | .v _=>true
 | .node cs=>plains cs
 | .arr _ xs=>plains xs
 | _=>false
def plains : List AV → Bool
 | []=>true
 | a :: as=>plain a && plains as
end
mutual
theorem JGg {C C':Ctx} (hI:∀ k,C.I k → C'.I k ∧ C'.w.heap[k]? = C.w.heap[k]?) : ∀ (a:AV) (cs:List Value),closed a = true → V C a cs → V C' a cs
 | .top,_,_,k=>by simpa [V] using k
 | .v x,_,_,k=>by simpa [V] using k
 | .node as,cs,h,k=>by simp only [closed] at h; simp only [V] at *; exact JWt hI as cs h k
 | .arr sz xs,cs,h,k=>by simp only [closed] at h; simp only [V] at *; exact JNx hI sz xs cs h k
 | .sl sz xs,cs,h,k=>by
   simp only [closed] at h
   simp only [V] at *
   obtain ⟨a,cap,body,e,h1,h2,h3,h4⟩:=k
   refine ⟨a,cap,body,e,h1,h2,JNx hI sz xs body h h3,h4.imp id ?_⟩
   rintro ⟨b,o,h5,h6,h7⟩
   exact ⟨b,o,h5,(hI b h6).1,h7.mono (hI b h6).2⟩
 | .iptr x,cs,h,k=>by
   simp only [closed] at h
   simp only [V] at *
   obtain ⟨b,o,body,e,h1,h2,h3⟩:=k
   exact ⟨b,o,body,e,(hI b h1).1,JGg hI x body h h2,h3.mono (hI b h1).2⟩
 | .ptr ..,_,h,_=>by simp [closed] at h
 | .row ..,_,h,_=>by simp [closed] at h
 | .vrow ..,_,h,_=>by simp [closed] at h
 | .rptr ..,_,h,_=>by simp [closed] at h
 | .oref ..,_,h,_=>by simp [closed] at h
 | .tup _,_,h,_=>by simp [closed] at h
theorem JWt {C C':Ctx} (hI:∀ k,C.I k → C'.I k ∧ C'.w.heap[k]? = C.w.heap[k]?) : ∀ (as:List AV) (cs:List Value),closeds as = true → Vs C as cs → Vs C' as cs
 | [],_,_,k=>by simpa [Vs] using k
 | a :: as,cs,h,k=>by
   simp only [closeds,Bool.and_eq_true] at h
   simp only [Vs] at *
   obtain ⟨c1,c2,e,h1,h2⟩:=k
   exact ⟨c1,c2,e,JGg hI a c1 h.1 h1,JWt hI as c2 h.2 h2⟩
theorem JNx {C C':Ctx} (hI:∀ k,C.I k → C'.I k ∧ C'.w.heap[k]? = C.w.heap[k]?) (sz:Nat) : ∀ (as:List AV) (cs:List Value),closeds as = true → Es C sz as cs → Es C' sz as cs
 | [],_,_,k=>by simpa [Es] using k
 | a :: as,cs,h,k=>by
   simp only [closeds,Bool.and_eq_true] at h
   simp only [Es] at *
   obtain ⟨c1,c2,e,hl,h1,h2⟩:=k
   exact ⟨c1,c2,e,hl,JGg hI a c1 h.1 h1,JNx hI sz as c2 h.2 h2⟩
end
mutual
theorem JUD {C C':Ctx} : ∀ (a:AV) (cs:List Value),plain a = true → V C a cs → V C' a cs
 | .top,_,_,k=>by simpa [V] using k
 | .v x,_,_,k=>by simpa [V] using k
 | .node as,cs,h,k=>by simp only [plain] at h; simp only [V] at *; exact JWu as cs h k
 | .arr sz xs,cs,h,k=>by simp only [plain] at h; simp only [V] at *; exact JQf sz xs cs h k
 | .sl ..,_,h,_=>by simp [plain] at h
 | .iptr _,_,h,_=>by simp [plain] at h
 | .ptr ..,_,h,_=>by simp [plain] at h
 | .row ..,_,h,_=>by simp [plain] at h
 | .vrow ..,_,h,_=>by simp [plain] at h
 | .rptr ..,_,h,_=>by simp [plain] at h
 | .oref ..,_,h,_=>by simp [plain] at h
 | .tup _,_,h,_=>by simp [plain] at h
theorem JWu {C C':Ctx} : ∀ (as:List AV) (cs:List Value),plains as = true → Vs C as cs → Vs C' as cs
 | [],_,_,k=>by simpa [Vs] using k
 | a :: as,cs,h,k=>by
   simp only [plains,Bool.and_eq_true] at h
   simp only [Vs] at *
   obtain ⟨c1,c2,e,h1,h2⟩:=k
   exact ⟨c1,c2,e,JUD a c1 h.1 h1,JWu as c2 h.2 h2⟩
theorem JQf {C C':Ctx} (sz:Nat) : ∀ (as:List AV) (cs:List Value),plains as = true → Es C sz as cs → Es C' sz as cs
 | [],_,_,k=>by simpa [Es] using k
 | a :: as,cs,h,k=>by
   simp only [plains,Bool.and_eq_true] at h
   simp only [Es] at *
   obtain ⟨c1,c2,e,hl,h1,h2⟩:=k
   exact ⟨c1,c2,e,hl,JUD a c1 h.1 h1,JQf sz as c2 h.2 h2⟩
end
mutual
theorem JL3 : ∀ (a:AV),plain a = true → closed a = true
 | .top,_=>rfl
 | .v _,_=>rfl
 | .node as,h=>by simp only [plain] at h; simp only [closed]; exact JjO as h
 | .arr _ as,h=>by simp only [plain] at h; simp only [closed]; exact JjO as h
 | .sl ..,h=>by simp [plain] at h
 | .iptr _,h=>by simp [plain] at h
 | .ptr ..,h=>by simp [plain] at h
 | .row ..,h=>by simp [plain] at h
 | .vrow ..,h=>by simp [plain] at h
 | .rptr ..,h=>by simp [plain] at h
 | .oref ..,h=>by simp [plain] at h
 | .tup _,h=>by simp [plain] at h
theorem JjO : ∀ (as:List AV),plains as = true → closeds as = true
 | [],_=>rfl
 | a :: as,h=>by
   simp only [plains,Bool.and_eq_true] at h
   simp only [closeds,Bool.and_eq_true]
   exact ⟨JL3 a h.1,JjO as h.2⟩
end
theorem closeds_all {as:List AV} : closeds as = true ↔ ∀ a ∈ as,closed a = true := by
 induction as with
 | nil=>simp [closeds]
 | cons a as ih=>simp [closeds,ih]
theorem plains_all {as:List AV} : plains as = true ↔ ∀ a ∈ as,plain a = true := by
 induction as with
 | nil=>simp [plains]
 | cons a as ih=>simp [plains,ih]
def look {α:Type} : List (Nat × α) → Nat → Option α
 | [],_=>none
 | (k,v) :: r,j=>if k = j then some v else look r j
theorem Jbh {α:Type} {l:List (Nat × α)} {k:Nat} {v:α} (h:look l k = some v) : (k,v) ∈ l := by
 induction l with
 | nil=>simp [look] at h
 | cons p l ih =>
   obtain ⟨k',v'⟩:=p
   simp only [look] at h
   split at h
   ·rename_i e; subst e; obtain rfl:=Option.some.inj h; exact List.mem_cons_self
   ·exact List.mem_cons_of_mem _ (ih h)
theorem Jj2 {α:Type} {l:List (Nat × α)} {k:Nat} {v:α} (hn:(l.map (·.1)).Nodup) (h:(k,v) ∈ l) : look l k = some v := by
 induction l with
 | nil=>cases h
 | cons p l ih =>
   obtain ⟨k',v'⟩:=p
   simp only [List.map_cons,List.nodup_cons] at hn
   simp only [look]
   rcases List.mem_cons.1 h with e | h
   ·obtain ⟨rfl,rfl⟩:=(by simpa using e:k = k' ∧ v = v'); simp
   ·rw [if_neg,ih hn.2 h]
    rintro rfl
    exact hn.1 (List.mem_map_of_mem (f:=(·.1)) h)
mutual
def Fit (m:Nat → Option Loc) (L:List (Nat × Option (Nat × Nat))) : AV → AV → Prop
 | raw,.sl sz ws=>match raw with
   | .sl s xs=>s = sz ∧ xs = ws ∧ closeds ws = true
   | .row l s g off n=>s = sz ∧ ∃ xs,m l = some (.rows g sz xs) ∧ off + n ≤ xs.length ∧ FitL m L ((xs.drop off).take n) ws
   | .vrow l g off s n _=>s = sz ∧ ∃ y xs,m l = some (.var g y) ∧ elemsAt sz y off = some xs ∧ n ≤ xs.length ∧ FitL m L (xs.take n) ws
   | .v (.slice none 0 0)=>ws = []
   | _=>False
 | raw,.ptr k _ off=>match raw with
   | .ptr l g off'=>off' = off ∧ look L k = some (some (l,g))
   | _=>False
 | raw,.row k sz _ off n=>match raw with
   | .row l s g off' n'=>s = sz ∧ off' = off ∧ n' = n ∧ look L k = some (some (l,g))
   | .v (.slice none 0 0)=>off = 0 ∧ n = 0 ∧ look L k = some none
   | _=>False
 | raw,.node ws=>match raw with
   | .node rs=>FitL m L rs ws
   | _=>False
 | raw,.arr sz ws=>match raw with
   | .arr s rs=>s = sz ∧ FitL m L rs ws
   | _=>False
 | raw,.vrow ..=>False
 | raw,.rptr ..=>False
 | raw,.oref k _ mp=>match raw with
   | .oref l g mp'=>mp' = mp ∧ look L k = some (some (l,g))
   | _=>False
 | raw,.tup _=>False
 | raw,.top=>raw = .top
 | raw,.v x=>raw = .v x
 | raw,.iptr x=>match raw with
   | .iptr y=>y = x ∧ closed x = true
   | .ptr l g off=>off = 0 ∧ closed x = true ∧ ∃ y,m l = some (.var g y) ∧ Fit m L y x
   | _=>False
def FitL (m:Nat → Option Loc) (L:List (Nat × Option (Nat × Nat))) : List AV → List AV → Prop
 | rs,[]=>rs = []
 | rs,w :: ws=>∃ r rs',rs = r :: rs' ∧ Fit m L r w ∧ FitL m L rs' ws
end
mutual
def touch (m:Nat → Option Loc) : AV → AV → List Nat
 | raw,.sl _ ws=>match raw with
   | .row l _ _ off n=>l :: (match m l with | some (.rows _ _ xs)=>touchL m ((xs.drop off).take n) ws | _=>[])
   | .vrow l _ off s n _=>l :: (match m l with | some (.var _ y)=>(match elemsAt s y off with | some xs=>touchL m (xs.take n) ws | none=>[]) | _=>[])
   | _=>[]
 | raw,.node ws=>match raw with
   | .node rs=>touchL m rs ws
   | _=>[]
 | raw,.arr _ ws=>match raw with
   | .arr _ rs=>touchL m rs ws
   | _=>[]
 | raw,.iptr x=>match raw with
   | .ptr l _ _=>l :: (match m l with | some (.var _ y)=>touch m y x | _=>[])
   | _=>[]
 | _,_=>[]
def touchL (m:Nat → Option Loc) : List AV → List AV → List Nat
 | r :: rs,w :: ws=>touch m r w ++ touchL m rs ws
 | _,_=>[]
end
mutual
theorem JKb {m:Nat → Option Loc} {L:List (Nat × Option (Nat × Nat))} : ∀ (a:AV),closed a = true → Fit m L a a ∧ touch m a a = []
 | .top,_=>by simp [Fit,touch]
 | .v x,_=>by simp [Fit,touch]
 | .node cs,h=>by simp only [closed] at h; simp only [Fit,touch]; exact JxY cs h
 | .arr sz xs,h=>by simp only [closed] at h; simp only [Fit,touch]; have:=JxY (m:=m) (L:=L) xs h; exact ⟨⟨trivial,this.1⟩,this.2⟩
 | .sl sz xs,h=>by simp only [closed] at h; simp [Fit,touch,h]
 | .iptr x,h=>by simp only [closed] at h; simp [Fit,touch,h]
 | .ptr ..,h=>by simp [closed] at h
 | .row ..,h=>by simp [closed] at h
 | .vrow ..,h=>by simp [closed] at h
 | .rptr ..,h=>by simp [closed] at h
 | .oref ..,h=>by simp [closed] at h
 | .tup _,h=>by simp [closed] at h
theorem JxY {m:Nat → Option Loc} {L:List (Nat × Option (Nat × Nat))} : ∀ (as:List AV),closeds as = true → FitL m L as as ∧ touchL m as as = []
 | [],_=>by simp [FitL,touchL]
 | a :: as,h=>by
   simp only [closeds,Bool.and_eq_true] at h
   have h1:=JKb (m:=m) (L:=L) a h.1
   have h2:=JxY (m:=m) (L:=L) as h.2
   simp only [FitL,touchL]
   exact ⟨⟨a,as,rfl,h1.1,h2.1⟩,by simp [h1.2,h2.2]⟩
end
theorem JpT {m:Nat → Option Loc} {L:List (Nat × Option (Nat × Nat))} : ∀ {rs ws:List AV},FitL m L rs ws → rs.length = ws.length
 | rs,[],h=>by simp only [FitL] at h; simp [h]
 | rs,w :: ws,h=>by
   simp only [FitL] at h
   obtain ⟨r,rs',rfl,_,h2⟩:=h
   simp [JpT h2]
structure Seen (C C':Ctx) (L:List (Nat × Option (Nat × Nat))) (T:List Nat) : Prop where
 w:C'.w = C.w
 I:∀ k,C.I k → C'.I k
 lent:∀ t ∈ T,∀ c b,C.m t = some c → C.blk t = some b → C'.I b
 loc:∀ k l g,look L k = some (some (l,g)) → ∀ c',C'.m k = some c' → ∃ c,C.m l = some c ∧ c.gen = g ∧ C'.blk k = C.blk l ∧
  (match c,c' with | .var _ _,.var _ _=>True | .rows _ sz _,.rows _ sz' _=>sz = sz' | .ob _ q _,.ob _ q' _=>q = q' | _,_=>False)
 nil:∀ k,look L k = some none → ∀ c',C'.m k = some c' → C'.blk k = none
mutual
def Stamped (U:Nat → Prop) : AV → Prop
 | .ptr _ g _=>U g
 | .row _ _ g _ _=>U g
 | .oref _ g _=>U g
 | .node cs=>StampedL U cs
 | .arr _ cs=>StampedL U cs
 | .sl _ cs=>StampedL U cs
 | .tup cs=>StampedL U cs
 | _=>True
def StampedL (U:Nat → Prop) : List AV → Prop
 | []=>True
 | a :: as=>Stamped U a ∧ StampedL U as
end
mutual
theorem Jbd {U U':Nat → Prop} (h:∀ g,U g → U' g) : ∀ (a:AV),Stamped U a → Stamped U' a
 | .ptr _ g _,k=>by simp only [Stamped] at *; exact h g k
 | .row _ _ g _ _,k=>by simp only [Stamped] at *; exact h g k
 | .oref _ g _,k=>by simp only [Stamped] at *; exact h g k
 | .node cs,k=>by simp only [Stamped] at *; exact J1 h cs k
 | .arr _ cs,k=>by simp only [Stamped] at *; exact J1 h cs k
 | .sl _ cs,k=>by simp only [Stamped] at *; exact J1 h cs k
 | .tup cs,k=>by simp only [Stamped] at *; exact J1 h cs k
 | .top,_=>by simp [Stamped]
 | .v _,_=>by simp [Stamped]
 | .vrow ..,_=>by simp [Stamped]
 | .iptr _,_=>by simp [Stamped]
 | .rptr ..,_=>by simp [Stamped]
theorem J1 {U U':Nat → Prop} (h:∀ g,U g → U' g) : ∀ (as:List AV),StampedL U as → StampedL U' as
 | [],_=>by simp [StampedL]
 | a :: as,k=>by simp only [StampedL] at *; exact ⟨Jbd h a k.1,J1 h as k.2⟩
end
mutual
theorem Jm2 {U:Nat → Prop} : ∀ (a:AV),closed a = true → Stamped U a
 | .top,_=>by simp [Stamped]
 | .v _,_=>by simp [Stamped]
 | .iptr _,_=>by simp [Stamped]
 | .node cs,h=>by simp only [closed] at h; simp only [Stamped]; exact Jbs cs h
 | .arr _ cs,h=>by simp only [closed] at h; simp only [Stamped]; exact Jbs cs h
 | .sl _ cs,h=>by simp only [closed] at h; simp only [Stamped]; exact Jbs cs h
 | .ptr ..,h=>by simp [closed] at h
 | .row ..,h=>by simp [closed] at h
 | .vrow ..,h=>by simp [closed] at h
 | .rptr ..,h=>by simp [closed] at h
 | .oref ..,h=>by simp [closed] at h
 | .tup _,h=>by simp [closed] at h
theorem Jbs {U:Nat → Prop} : ∀ (as:List AV),closeds as = true → StampedL U as
 | [],_=>by simp [StampedL]
 | a :: as,h=>by
   simp only [closeds,Bool.and_eq_true] at h
   simp only [StampedL]
   exact ⟨Jm2 a h.1,Jbs as h.2⟩
end
section
variable {w0:World} {Ws I0:Nat → Prop} {C C':Ctx} {L:List (Nat × Option (Nat × Nat))} {T:List Nat}
theorem J2a (hw:WR w0 Ws I0 C) (hs:Seen C C' L T) {sz l:Nat} {raw:AV} {xs ws:List AV} {cs:List Value} (hsrc:srcA C.m sz raw = some xs) (ho:raw.solid = true) (ha:raw.isAgg = false) (hr:refOf raw = some l) (hT:l ∈ T)
 (k:V C raw cs) (hlen:xs.length = ws.length) (hE:∀ news,Es C sz xs news → Es C' sz ws news):V C' (.sl sz ws) cs:=by
 have h1:raw.size = 1:=by cases raw <;> first | rfl | (simp [AV.isAgg] at ha)
 have hl:=Jbn _ _ k
 rw [h1] at hl
 obtain ⟨x,rfl⟩:=List.length_eq_one_iff.1 hl
 obtain ⟨ao,cap,news,e,h1,h2,h3,h4⟩:=JR8 hw (JYZ k ha) hsrc
 subst e
 simp only [V]
 refine ⟨ao,cap,news,by rw [hlen],by omega,h2,hE news h3,?_⟩
 rcases h4 with h4 | ⟨b,o,e1,h5,h6⟩
 ·left; rw [h4] at hlen; exact List.eq_nil_of_length_eq_zero (by simpa using hlen.symm)
 ·right
  refine ⟨b,o,e1,?_,by rw [hs.w]; exact h5⟩
  rcases h6 with h6 | ⟨l2,c2,e2,h7,h8⟩
  ·exact hs.I b h6
  ·rw [hr] at e2
   obtain rfl:=Option.some.inj e2
   exact hs.lent _ hT c2 b h7 h8
mutual
theorem V_fit (hw:WR w0 Ws I0 C) (hs:Seen C C' L T) : ∀ (want raw:AV) (cs:List Value),Fit C.m L raw want → (∀ l ∈ touch C.m raw want,l ∈ T) → Stamped C'.used want → V C raw cs → V C' want cs
 | .top,raw,cs,h,_,_,k=>by simp only [Fit] at h; subst h; simpa [V] using k
 | .v x,raw,cs,h,_,_,k=>by simp only [Fit] at h; subst h; simpa [V] using k
 | .iptr x,raw,cs,h,ht,hst,k=>by
   simp only [Fit] at h
   split at h
   ·rename_i y
    obtain ⟨rfl,h1⟩:=h
    exact JGg (fun j hj=>⟨hs.I j hj,by rw [hs.w]⟩) (.iptr y) cs (by simpa [closed] using h1) k
   ·rename_i l g off
    obtain ⟨rfl,hcl,y,hm,hf⟩:=h
    simp only [touch,hm] at ht
    simp only [V] at k ⊢
    obtain ⟨a,e,_,k⟩:=k
    obtain ⟨b,hb,rfl⟩:=k y hm
    obtain ⟨b',cur,Ty,k1,k2,k3⟩:=hw.locs l _ hm
    obtain rfl:b = b':=by rw [hb] at k1; exact Option.some.inj k1
    refine ⟨b,0,cur.toList,e,hs.lent l (ht l List.mem_cons_self) _ b hm hb,V_fit hw hs x y _ hf (fun t htt=>ht t (List.mem_cons_of_mem _ htt)) (Jm2 x hcl) k3,fun j u hu=>?_⟩
    rw [hs.w]
    simp only [World.cell?,k2]
    simpa using hu
   ·cases h
 | .vrow ..,raw,cs,h,_,_,k=>by simp [Fit] at h
 | .rptr ..,raw,cs,h,_,_,k=>by simp [Fit] at h
 | .oref l' g' mp,raw,cs,h,_ht,hst,k=>by
   simp only [Fit] at h
   split at h <;> first | (cases h; done) | skip
   rename_i l g mp'
   obtain ⟨rfl,hL⟩:=h
   simp only [V,Stamped] at *
   obtain ⟨r,e,_,k⟩:=k
   refine ⟨r,e,hst,fun q y hm=>?_⟩
   obtain ⟨c,h1,h2,h3,h4⟩:=hs.loc l' l g hL _ hm
   cases c with
   | var _ _=>simp at h4
   | rows _ _ _=>simp at h4
   | ob g1 q1 y1=>simp only [Loc.gen] at h2; subst h2; rw [h3]; exact k _ _ h1
 | .tup _,raw,cs,h,_,_,k=>by simp [Fit] at h
 | .ptr l' g' off,raw,cs,h,_ht,hst,k=>by
   simp only [Fit] at h
   split at h <;> first | (cases h; done) | skip
   rename_i l g off'
   obtain ⟨rfl,hL⟩:=h
   simp only [V,Stamped] at *
   obtain ⟨a,e,_,k⟩:=k
   refine ⟨a,e,hst,fun y hm=>?_⟩
   obtain ⟨c,h1,h2,h3,h4⟩:=hs.loc l' l g hL _ hm
   cases c with
   | var g1 y1=>simp only [Loc.gen] at h2; subst h2; rw [h3]; exact k _ h1
   | rows g1 sz xs=>simp at h4
   | ob _ _ _=>simp at h4
 | .row l' sz g' off n,raw,cs,h,_ht,hst,k=>by
   simp only [Fit] at h
   split at h
   ·rename_i l s g off' n'
    obtain ⟨rfl,rfl,rfl,hL⟩:=h
    simp only [V,Stamped] at *
    obtain ⟨ao,cap,e,hn,hm,hso,_,k⟩:=k
    refine ⟨ao,cap,e,hn,hm,hso,hst,fun xs hm'=>?_⟩
    obtain ⟨c,h1,h2,h3,h4⟩:=hs.loc l' l g hL _ hm'
    cases c with
    | var g1 y1=>simp at h4
    | rows g1 sz1 xs1 =>
      simp only [Loc.gen] at h2
      simp only at h4
      subst h2 h4
      have:=k _ h1
      unfold RowVal at *
      rw [h3,hs.w]
      exact this
    | ob _ _ _=>simp at h4
   ·obtain ⟨rfl,rfl,hL⟩:=h
    simp only [V,Stamped] at *
    obtain ⟨rfl,_⟩:=k
    refine ⟨none,0,rfl,Nat.le_refl _,by simp [maxLen],fun h=>by simp at h,hst,fun xs hm'=>?_⟩
    unfold RowVal
    rw [hs.nil l' hL _ hm']
    exact ⟨rfl,rfl,none,rfl⟩
   ·cases h
 | .node ws,raw,cs,h,ht,hst,k=>by
   simp only [Fit] at h
   split at h <;> first | (cases h; done) | skip
   simp only [V,Stamped,touch] at *
   exact J2T hw hs ws _ cs h ht hst k
 | .arr sz ws,raw,cs,h,ht,hst,k=>by
   simp only [Fit] at h
   split at h <;> first | (cases h; done) | skip
   obtain ⟨rfl,h⟩:=h
   simp only [V,Stamped,touch] at *
   exact JRQ hw hs _ ws _ cs h ht hst k
 | .sl sz ws,raw,cs,h,ht,hst,k=>by
   simp only [Fit] at h
   split at h
   ·obtain ⟨rfl,rfl,hc⟩:=h
    exact JGg (fun j hj=>⟨hs.I j hj,by rw [hs.w]⟩) _ cs (by simpa [closed] using hc) k
   ·rename_i l s g off n
    obtain ⟨rfl,xs,hm,hfit,hL⟩:=h
    simp only [touch,hm] at ht
    simp only [Stamped] at hst
    exact J2a hw hs (by simp [srcA,hm,hfit]) rfl rfl rfl (ht l List.mem_cons_self) k (JpT hL) (fun news h3=>JRQ hw hs s ws _ news hL (fun t htt=>ht t (List.mem_cons_of_mem _ htt)) hst h3)
   ·rename_i l g off s n cap
    obtain ⟨rfl,y,xs,hm,he,hn,hL⟩:=h
    simp only [touch,hm,he] at ht
    simp only [Stamped] at hst
    exact J2a hw hs (by simp [srcA,hm,he,hn]) rfl rfl rfl (ht l List.mem_cons_self) k (JpT hL) (fun news h3=>JRQ hw hs s ws _ news hL (fun t htt=>ht t (List.mem_cons_of_mem _ htt)) hst h3)
   ·subst h
    simp only [V] at *
    obtain ⟨rfl,_⟩:=k
    exact ⟨none,0,[],rfl,Nat.le_refl _,by simp [maxLen],by simp [Es],.inl trivial⟩
   ·cases h
theorem J2T (hw:WR w0 Ws I0 C) (hs:Seen C C' L T) : ∀ (ws rs:List AV) (cs:List Value),FitL C.m L rs ws → (∀ l ∈ touchL C.m rs ws,l ∈ T) → StampedL C'.used ws → Vs C rs cs → Vs C' ws cs
 | [],rs,cs,h,_,_,k=>by simp only [FitL] at h; subst h; simpa [Vs] using k
 | w :: ws,rs,cs,h,ht,hst,k=>by
   simp only [FitL] at h
   obtain ⟨r,rs',rfl,h1,h2⟩:=h
   simp only [Vs,StampedL,touchL] at *
   obtain ⟨c1,c2,e,k1,k2⟩:=k
   exact ⟨c1,c2,e,V_fit hw hs w r c1 h1 (fun t htt=>ht t (List.mem_append_left _ htt)) hst.1 k1,J2T hw hs ws rs' c2 h2 (fun t htt=>ht t (List.mem_append_right _ htt)) hst.2 k2⟩
theorem JRQ (hw:WR w0 Ws I0 C) (hs:Seen C C' L T) (sz:Nat) : ∀ (ws rs:List AV) (cs:List Value),FitL C.m L rs ws → (∀ l ∈ touchL C.m rs ws,l ∈ T) → StampedL C'.used ws → Es C sz rs cs → Es C' sz ws cs
 | [],rs,cs,h,_,_,k=>by simp only [FitL] at h; subst h; simpa [Es] using k
 | w :: ws,rs,cs,h,ht,hst,k=>by
   simp only [FitL] at h
   obtain ⟨r,rs',rfl,h1,h2⟩:=h
   simp only [Es,StampedL,touchL] at *
   obtain ⟨c1,c2,e,hl,k1,k2⟩:=k
   exact ⟨c1,c2,e,hl,V_fit hw hs w r c1 h1 (fun t htt=>ht t (List.mem_append_left _ htt)) hst.1 k1,JRQ hw hs sz ws rs' c2 h2 (fun t htt=>ht t (List.mem_append_right _ htt)) hst.2 k2⟩
end
end
end
section
open Go
abbrev Names := List (Nat × Option (Nat × Nat))
def FitE (m:Nat → Option Loc) (L:Names) (k:Nat) : Loc → Prop
 | .var _ w=>∃ l g raw,look L k = some (some (l,g)) ∧ m l = some (.var g raw) ∧ Fit m L raw w
 | .rows _ sz ws=>(∃ l g xs,look L k = some (some (l,g)) ∧ m l = some (.rows g sz xs) ∧ FitL m L xs ws) ∨ (look L k = some none ∧ ws = [])
 | .ob _ q w=>∃ l g raw,look L k = some (some (l,g)) ∧ m l = some (.ob g q raw) ∧ Fit m L raw w
def touchE (m:Nat → Option Loc) (L:Names) (k:Nat) (c:Loc) : List Nat :=
 match c with
 | .ob _ _ w=>match look L k with
   | some (some (l,_))=>match m l with
     | some (.ob _ _ raw)=>touch m raw w
     | _=>[]
   | _=>[]
 | .var _ w=>match look L k with
   | some (some (l,_))=>match m l with
     | some (.var _ raw)=>touch m raw w
     | _=>[]
   | _=>[]
 | .rows _ _ ws=>match look L k with
   | some (some (l,_))=>match m l with
     | some (.rows _ _ xs)=>touchL m xs ws
     | _=>[]
   | _=>[]
def src (L:Names) (k:Nat) : Option Nat :=
 match look L k with
 | some (some (l,_))=>some l
 | _=>none
def srcs (L:Names) (M:List (Nat × Loc)) : List Nat := M.filterMap fun e => src L e.1
def StampedLoc (U:Nat → Prop) : Loc → Prop
 | .var g w=>U g ∧ Stamped U w
 | .rows g _ ws=>U g ∧ StampedL U ws
 | .ob g _ w=>U g ∧ Stamped U w
def reCtx (C:Ctx) (L:Names) (M:List (Nat × Loc)) (T:List Nat) (U:Nat → Prop) : Ctx :=
 ⟨C.w,fun b=>C.I b ∨ ∃ t ∈ T,∃ c,C.m t = some c ∧ C.blk t = some b,fun k=>(src L k).bind C.blk,look M,U⟩
structure Named (m:Nat → Option Loc) (L:Names) (M:List (Nat × Loc)) (T:List Nat) (U:Nat → Prop) : Prop where
 nd:(M.map (·.1)).Nodup
 fit:∀ e ∈ M,FitE m L e.1 e.2
 lent:∀ e ∈ M,∀ t ∈ touchE m L e.1 e.2,t ∈ T
 ns:(srcs L M).Nodup
 apart:∀ t ∈ T,t ∉ srcs L M
 st:∀ e ∈ M,StampedLoc U e.2
theorem Jkv {α β:Type} {f:α → Option β} : ∀ {l:List α} {a a':α} {b:β},(l.filterMap f).Nodup → a ∈ l → a' ∈ l → f a = some b → f a' = some b → a = a'
 | [],_,_,_,_,h,_,_,_=>by cases h
 | x :: l,a,a',b,hn,h1,h2,e1,e2=>by
   rcases List.mem_cons.1 h1 with k1 | k1 <;> rcases List.mem_cons.1 h2 with k2 | k2
   ·rw [k1,k2]
   ·rw [← k1,List.filterMap_cons_some e1,List.nodup_cons] at hn
    exact absurd (List.mem_filterMap.2 ⟨a',k2,e2⟩) hn.1
   ·rw [← k2,List.filterMap_cons_some e2,List.nodup_cons] at hn
    exact absurd (List.mem_filterMap.2 ⟨a,k1,e1⟩) hn.1
   ·refine Jkv (f:=f) ?_ k1 k2 e1 e2
    cases hx:f x with
    | none=>rwa [List.filterMap_cons_none hx] at hn
    | some y=>rw [List.filterMap_cons_some hx,List.nodup_cons] at hn; exact hn.2
section
variable {w0:World} {Ws I0:Nat → Prop} {C:Ctx} {L:Names} {M:List (Nat × Loc)} {T:List Nat} {U:Nat → Prop}
theorem Named.seen (h:Named C.m L M T U) : Seen C (reCtx C L M T U) L T := by
 refine ⟨rfl,fun _ h=>.inl h,fun t ht c b hc hb=>.inr ⟨t,ht,c,hc,hb⟩,fun k l g hL c' hc=>?_,fun k hL c' hc=>?_⟩
 ·have hf:=h.fit _ (Jbh hc)
  cases c' with
  | var g' w =>
    obtain ⟨l',g1,raw,h1,h2,h3⟩:=hf
    rw [hL] at h1
    obtain ⟨rfl,rfl⟩:=(by simpa using h1:l = l' ∧ g = g1)
    exact ⟨_,h2,rfl,by simp [reCtx,src,hL],trivial⟩
  | rows g' sz ws =>
    rcases hf with ⟨l',g1,raw,h1,h2,h3⟩ | ⟨h1,_⟩
    ·rw [hL] at h1
     obtain ⟨rfl,rfl⟩:=(by simpa using h1:l = l' ∧ g = g1)
     exact ⟨_,h2,rfl,by simp [reCtx,src,hL],rfl⟩
    ·rw [hL] at h1; simp at h1
  | ob g' q w =>
    obtain ⟨l',g1,raw,h1,h2,h3⟩:=hf
    rw [hL] at h1
    obtain ⟨rfl,rfl⟩:=(by simpa using h1:l = l' ∧ g = g1)
    exact ⟨_,h2,rfl,by simp [reCtx,src,hL],rfl⟩
 ·simp [reCtx,src,hL]
theorem Named.locs (hw:WR w0 Ws I0 C) (h:Named C.m L M T U) : ∀ l c,(reCtx C L M T U).m l = some c → LocOk (reCtx C L M T U) l c := by
 intro k c hc
 have hmem:=Jbh hc
 have hf:=h.fit _ hmem
 have hst:=h.st _ hmem
 have ht:=h.lent _ hmem
 cases c with
 | var g' w =>
   obtain ⟨l,g1,raw,h1,h2,h3⟩:=hf
   obtain ⟨b,cur,Ty,k1,k2,k3⟩:=hw.locs l _ h2
   refine ⟨b,cur,Ty,by simp [reCtx,src,h1,k1],k2,?_⟩
   exact V_fit hw h.seen w raw _ h3 (fun t htt=>ht t (by simpa [touchE,h1,h2] using htt)) hst.2 k3
 | rows g' sz ws =>
   rcases hf with ⟨l,g1,xs,h1,h2,h3⟩ | ⟨h1,rfl⟩
   ·have hlen:=JpT h3
    rcases hw.locs l _ h2 with ⟨k1,k2⟩ | ⟨b,cur,Ty,cap,k1,k2,k3,k4,k5,k6⟩
    ·left
     refine ⟨by simp [reCtx,src,h1,k1],?_⟩
     subst k2
     exact List.eq_nil_of_length_eq_zero (by simpa using hlen.symm)
    ·right
     refine ⟨b,cur,Ty,cap,by simp [reCtx,src,h1,k1],k2,k3,k4,by omega,?_⟩
     rw [← hlen]
     exact JRQ hw h.seen sz ws xs _ h3 (fun t htt=>ht t (by simpa [touchE,h1,h2] using htt)) hst.2 k6
   ·left
    exact ⟨by simp [reCtx,src,h1],rfl⟩
 | ob g' q w =>
   obtain ⟨l,g1,raw,h1,h2,h3⟩:=hf
   obtain ⟨b,o,cs,k1,k2,k3,k4⟩:=hw.locs l _ h2
   refine ⟨b,o,cs,by simp [reCtx,src,h1,k1],k2,k3,?_⟩
   exact V_fit hw h.seen w raw _ h3 (fun t htt=>ht t (by simpa [touchE,h1,h2] using htt)) hst.2 k4
theorem Named.source (h:Named C.m L M T U) {k:Nat} {c:Loc} {b:Nat} (hc:(reCtx C L M T U).m k = some c) (hb:(reCtx C L M T U).blk k = some b) :
 ∃ l c0,src L k = some l ∧ C.m l = some c0 ∧ C.blk l = some b ∧ l ∈ srcs L M:=by
 have hmem:=Jbh hc
 have hf:=h.fit _ hmem
 simp only [reCtx,Option.bind_eq_some_iff] at hb
 obtain ⟨l,h1,h2⟩:=hb
 have h3:∃ c0,C.m l = some c0:=by
  unfold src at h1
  split at h1
  ·rename_i l' g' hL
   obtain rfl:=Option.some.inj h1
   cases c with
   | var g w =>
     obtain ⟨l2,g2,raw,e1,e2,_⟩:=hf
     simp only at e1
     rw [hL] at e1
     obtain ⟨rfl,rfl⟩:=(by simpa using e1:l' = l2 ∧ g' = g2)
     exact ⟨_,e2⟩
   | rows g sz ws =>
     rcases hf with ⟨l2,g2,raw,e1,e2,_⟩ | ⟨e1,_⟩
     ·simp only at e1
      rw [hL] at e1
      obtain ⟨rfl,rfl⟩:=(by simpa using e1:l' = l2 ∧ g' = g2)
      exact ⟨_,e2⟩
     ·simp only at e1
      rw [hL] at e1; simp at e1
   | ob g q w =>
     obtain ⟨l2,g2,raw,e1,e2,_⟩:=hf
     simp only at e1
     rw [hL] at e1
     obtain ⟨rfl,rfl⟩:=(by simpa using e1:l' = l2 ∧ g' = g2)
     exact ⟨_,e2⟩
  ·cases h1
 obtain ⟨c0,h3⟩:=h3
 exact ⟨l,c0,h1,h3,h2,List.mem_filterMap.2 ⟨(k,c),hmem,h1⟩⟩
theorem Named.wr (hw:WR w0 Ws I0 C) (h:Named C.m L M T U) {w1:World} {Ws1 I1:Nat → Prop} (hI1:∀ k,I1 k → (reCtx C L M T U).I k)
 (hown:∀ l c b,l ∈ srcs L M → C.m l = some c → C.blk l = some b → Ws1 b ∨ w1.heap.size ≤ b) (himm:∀ k,(reCtx C L M T U).I k → I1 k ∨ Ws1 k ∨ w1.heap.size ≤ k)
 (os:C.w.os = w1.os) (tape:C.w.tape = w1.tape) (output:C.w.output = w1.output) (size:w1.heap.size ≤ C.w.heap.size) (block:∀ k,k < w1.heap.size → ¬ Ws1 k → C.w.heap[k]? = w1.heap[k]?) :
 WR w1 Ws1 I1 (reCtx C L M T U):=by
 refine ⟨h.locs hw,fun k k' c c' b h1 h2 h3 h4=>?_,fun k c b h1 h2=>?_,fun k hk=>⟨?_,himm k hk⟩,hI1,fun k c hc=>?_,os,tape,output,size,block⟩
 ·obtain ⟨l,c0,e1,e2,e3,_⟩:=h.source h1 h3
  obtain ⟨l',c0',e1',e2',e3',_⟩:=h.source h2 h4
  obtain rfl:=hw.inj l l' c0 c0' b e2 e2' e3 e3'
  have:=Jkv (f:=fun e:Nat × Loc=>src L e.1) h.ns (Jbh h1) (Jbh h2) e1 e1'
  exact congrArg Prod.fst this
 ·obtain ⟨l,c0,e1,e2,e3,e4⟩:=h.source h1 h2
  obtain ⟨k1,k2,k3⟩:=hw.own l c0 b e2 e3
  refine ⟨k1,?_,hown l c0 b e4 e2 e3⟩
  rintro (hI | ⟨t,ht,ct,hct,hbt⟩)
  ·exact k2 hI
  ·obtain rfl:=hw.inj l t c0 ct b e2 hct e3 hbt
   exact h.apart _ ht e4
 ·rcases hk with hk | ⟨t,ht,ct,hct,hbt⟩
  ·exact (hw.imm k hk).1
  ·exact (hw.own t ct k hct hbt).1
 ·have:=h.st _ (Jbh hc)
  cases c <;> exact this.1
end
end
section
open Go
mutual
def goodA (keep:Bool) (M:List (Nat × Loc)) : AV → Bool
 | .ptr l g _=>match look M l with
   | some (.var g' _)=>g == g'
   | _=>false
 | .row l sz g _ _=>match look M l with
   | some (.rows g' s _)=>g == g' && s == sz
   | _=>false
 | .oref l g _=>match look M l with
   | some (.ob g' _ _)=>g == g'
   | _=>false
 | .node cs=>goods keep M cs
 | .tup cs=>goods keep M cs
 | a=>if keep = true then plain a else closed a
def goods (keep:Bool) (M:List (Nat × Loc)) : List AV → Bool
 | []=>true
 | a :: as=>goodA keep M a && goods keep M as
end
def goodE (keep:Bool) (M:List (Nat × Loc)) : Loc → Bool
 | .var g c=>(g == 0 || g == 1) && goodA keep M c
 | .rows g _ xs=>g == 1 && (if keep = true then plains xs else closeds xs)
 | .ob g _ c=>(g == 0 || g == 1) && goodA keep M c
def goodM (keep:Bool) (M:List (Nat × Loc)) : List (Nat × Loc) → Bool
 | []=>true
 | e :: r=>goodE keep M e.2 && goodM keep M r
theorem Jvu {keep:Bool} {M:List (Nat × Loc)} : ∀ {r:List (Nat × Loc)} {e:Nat × Loc},goodM keep M r = true → e ∈ r → goodE keep M e.2 = true
 | [],_,_,h=>by cases h
 | x :: r,e,h,hm=>by
   simp only [goodM,Bool.and_eq_true] at h
   rcases List.mem_cons.1 hm with rfl | hm
   ·exact h.1
   ·exact Jvu h.2 hm
def Meets (P:Program) (G:Nat → Option AV) (f:Nat) (args:List AV) (M:List (Nat × Loc)) (keep:Bool) (res:AV) (M':List (Nat × Loc)) : Prop :=
 (goodM keep M' M' = true ∧ goodA keep M' res = true ∧ (M'.map (·.1)).Nodup) ∧
 ∀ (C:Ctx) (Ws:Nat → Prop) (ys:List Value),WR C.w Ws C.I C → C.m = look M → (∀ g,C.used g ↔ g = 0) → GR C G → SVl C args ys →
  Calls P f ys.toArray C.w fun e w'=>∃ y C',e = .returned y ∧ C'.w = w' ∧ C.Le C' ∧ WR C.w Ws C.I C' ∧ C'.m = look M' ∧ SV C' res y
def kap (L:Names) (nb gn:Nat) (k g:Nat) : Nat × Nat :=
 if g = 0 then (match look L k with | some (some q)=>q | _=>(nb + k,gn)) else (nb + k,gn)
mutual
def renA (L:Names) (nb gn:Nat) : AV → AV
 | .ptr l g off=>.ptr (kap L nb gn l g).1 (kap L nb gn l g).2 off
 | .row l sz g off n=>.row (kap L nb gn l g).1 sz (kap L nb gn l g).2 off n
 | .oref l g mp=>.oref (kap L nb gn l g).1 (kap L nb gn l g).2 mp
 | .node cs=>.node (rens L nb gn cs)
 | .tup cs=>.tup (rens L nb gn cs)
 | a=>a
def rens (L:Names) (nb gn:Nat) : List AV → List AV
 | []=>[]
 | a :: as=>renA L nb gn a :: rens L nb gn as
end
def renLoc (L:Names) (nb gn k:Nat) : Loc → Loc
 | .var g c=>.var (kap L nb gn k g).2 (renA L nb gn c)
 | .rows g sz xs=>.rows (kap L nb gn k g).2 sz xs
 | .ob g q c=>.ob (kap L nb gn k g).2 q (renA L nb gn c)
def renM (L:Names) (nb gn:Nat) (M:List (Nat × Loc)) : List (Nat × Loc) := M.map fun e => ((kap L nb gn e.1 e.2.gen).1,renLoc L nb gn e.1 e.2)
theorem JPK {L:Names} {nb gn k:Nat} (c:Loc) : (renLoc L nb gn k c).gen = (kap L nb gn k c.gen).2 := by cases c <;> rfl
structure Back (C1 C':Ctx) (L:Names) (nb gn:Nat) (keep:Bool) (M:List (Nat × Loc)) : Prop where
 w:C'.w = C1.w
 I:keep = true ∨ ∀ k,C1.I k → C'.I k
 m:C1.m = look M
 at_:∀ k c,look M k = some c → C'.m (kap L nb gn k c.gen).1 = some (renLoc L nb gn k c) ∧ C'.blk (kap L nb gn k c.gen).1 = C1.blk k ∧ C'.used (kap L nb gn k c.gen).2
section
variable {C1 C':Ctx} {L:Names} {nb gn:Nat} {keep:Bool} {M:List (Nat × Loc)}
theorem JbR (hb:Back C1 C' L nb gn keep M) {a:AV} {cs:List Value} (hg:(if keep = true then plain a else closed a) = true) (k:V C1 a cs) : V C' a cs := by
 rcases hb.I with rfl | hI
 ·exact JUD a cs (by simpa using hg) k
 ·refine JGg (fun j hj=>⟨hI j hj,by rw [hb.w]⟩) a cs ?_ k
  split at hg
  ·exact JL3 a hg
  ·exact hg
theorem JTB (hb:Back C1 C' L nb gn keep M) {sz:Nat} {xs:List AV} {cs:List Value} (hg:(if keep = true then plains xs else closeds xs) = true) (k:Es C1 sz xs cs) : Es C' sz xs cs := by
 rcases hb.I with rfl | hI
 ·exact JQf sz xs cs (by simpa using hg) k
 ·refine JNx (fun j hj=>⟨hI j hj,by rw [hb.w]⟩) sz xs cs ?_ k
  split at hg
  ·exact JjO xs hg
  ·exact hg
mutual
theorem Jpq (hb:Back C1 C' L nb gn keep M) : ∀ (a:AV) (cs:List Value),goodA keep M a = true → V C1 a cs → V C' (renA L nb gn a) cs
 | .ptr l g off,cs,h,k=>by
   simp only [goodA] at h
   split at h <;> first | (cases h; done) | skip
   rename_i g' c hl
   simp only [beq_iff_eq] at h
   subst h
   simp only [V,renA] at *
   obtain ⟨a,e,_,k⟩:=k
   obtain ⟨h1,h2,h3⟩:=hb.at_ l _ hl
   simp only [Loc.gen] at h1 h2 h3
   refine ⟨a,e,h3,fun y _=>?_⟩
   rw [h2]
   exact k c (by rw [hb.m]; exact hl)
 | .row l sz g off n,cs,h,k=>by
   simp only [goodA] at h
   split at h <;> first | (cases h; done) | skip
   rename_i g' s c hl
   simp only [Bool.and_eq_true,beq_iff_eq] at h
   obtain ⟨rfl,rfl⟩:=h
   simp only [V,renA] at *
   obtain ⟨ao,cap,e,hn,hm,hso,_,k⟩:=k
   obtain ⟨h1,h2,h3⟩:=hb.at_ l _ hl
   simp only [Loc.gen] at h1 h2 h3
   refine ⟨ao,cap,e,hn,hm,hso,h3,fun xs _=>?_⟩
   have:=k c (by rw [hb.m]; exact hl)
   unfold RowVal at *
   rw [h2,hb.w]
   exact this
 | .oref l g mp,cs,h,k=>by
   simp only [goodA] at h
   split at h <;> first | (cases h; done) | skip
   rename_i g' q c hl
   simp only [beq_iff_eq] at h
   subst h
   simp only [V,renA] at *
   obtain ⟨r,e,_,k⟩:=k
   obtain ⟨h1,h2,h3⟩:=hb.at_ l _ hl
   simp only [Loc.gen] at h1 h2 h3
   refine ⟨r,e,h3,fun _ y _=>?_⟩
   rw [h2]
   exact k q c (by rw [hb.m]; exact hl)
 | .node as,cs,h,k=>by
   simp only [goodA] at h
   simp only [V,renA] at *
   exact JYS hb as cs h k
 | .top,cs,h,k=>by simp only [renA]; exact JbR hb (by simpa only [goodA] using h) k
 | .v x,cs,h,k=>by simp only [renA]; exact JbR hb (by simpa only [goodA] using h) k
 | .arr sz xs,cs,h,k=>by simp only [renA]; exact JbR hb (by simpa only [goodA] using h) k
 | .sl sz xs,cs,h,k=>by simp only [renA]; exact JbR hb (by simpa only [goodA] using h) k
 | .iptr x,cs,h,k=>by simp only [renA]; exact JbR hb (by simpa only [goodA] using h) k
 | .vrow ..,cs,h,k=>by simp only [renA]; exact JbR hb (by simpa only [goodA] using h) k
 | .rptr ..,cs,h,k=>by simp only [renA]; exact JbR hb (by simpa only [goodA] using h) k
 | .tup _,cs,h,k=>by simp [V] at k
theorem JYS (hb:Back C1 C' L nb gn keep M) : ∀ (as:List AV) (cs:List Value),goods keep M as = true → Vs C1 as cs → Vs C' (rens L nb gn as) cs
 | [],cs,_,k=>by simpa [Vs,rens] using k
 | a :: as,cs,h,k=>by
   simp only [goods,Bool.and_eq_true] at h
   simp only [Vs,rens] at *
   obtain ⟨c1,c2,e,h1,h2⟩:=k
   exact ⟨c1,c2,e,Jpq hb a c1 h.1 h1,JYS hb as c2 h.2 h2⟩
end
theorem Jef (hb:Back C1 C' L nb gn keep M) {a:AV} {x:Value} (h:goodA keep M a = true) (k:SV1 C1 a x) : SV1 C' (renA L nb gn a) x := by
 cases a with
 | top=>exact trivial
 | tup _=>exact k.elim
 | node as=>obtain ⟨cs,e,k⟩:=k; exact ⟨cs,e,Jpq hb _ _ h k⟩
 | arr sz xs=>obtain ⟨cs,e,k⟩:=k; exact ⟨cs,e,Jpq hb _ _ h k⟩
 | v y=>exact Jpq hb (.v y) _ h k
 | sl sz xs=>exact Jpq hb (.sl sz xs) _ h k
 | ptr l g off=>exact Jpq hb (.ptr l g off) _ h k
 | row l sz g off n=>exact Jpq hb (.row l sz g off n) _ h k
 | vrow l g off sz n cap=>exact Jpq hb (.vrow l g off sz n cap) _ h k
 | iptr y=>exact Jpq hb (.iptr y) _ h k
 | rptr l sz g i off=>exact Jpq hb (.rptr l sz g i off) _ h k
 | oref l g mp=>exact Jpq hb (.oref l g mp) _ h k
theorem JWj (hb:Back C1 C' L nb gn keep M) : ∀ {as:List AV} {xs:List Value},goods keep M as = true → SVs C1 as xs → SVs C' (rens L nb gn as) xs
 | [],_,_,k=>k
 | a :: as,xs,h,⟨y,ys,e,h1,h2⟩=>by
   simp only [goods,Bool.and_eq_true] at h
   exact ⟨y,ys,e,Jef hb h.1 h1,JWj hb h.2 h2⟩
theorem J3q (hb:Back C1 C' L nb gn keep M) {a:AV} {x:Value} (h:goodA keep M a = true) (k:SV C1 a x) : SV C' (renA L nb gn a) x := by
 cases a with
 | tup as =>
   obtain ⟨xs,e,k⟩:=k
   simp only [goodA] at h
   exact ⟨xs,e,JWj hb h k⟩
 | top=>exact trivial
 | node as=>exact Jef (a:=.node as) hb h k
 | arr sz xs=>exact Jef (a:=.arr sz xs) hb h k
 | v y=>exact Jef (a:=.v y) hb h k
 | sl sz xs=>exact Jef (a:=.sl sz xs) hb h k
 | ptr l g off=>exact Jef (a:=.ptr l g off) hb h k
 | row l sz g off n=>exact Jef (a:=.row l sz g off n) hb h k
 | vrow l g off sz n cap=>exact Jef (a:=.vrow l g off sz n cap) hb h k
 | iptr y=>exact Jef (a:=.iptr y) hb h k
 | rptr l sz g i off=>exact Jef (a:=.rptr l sz g i off) hb h k
 | oref l g mp=>exact Jef (a:=.oref l g mp) hb h k
theorem JWY (hb:Back C1 C' L nb gn keep M) {k:Nat} {c:Loc} (hl:look M k = some c) (hg:goodE keep M c = true) (h:LocOk C1 k c) : LocOk C' (kap L nb gn k c.gen).1 (renLoc L nb gn k c) := by
 obtain ⟨h1,h2,h3⟩:=hb.at_ k c hl
 cases c with
 | var g x =>
   simp only [goodE,Bool.and_eq_true] at hg
   obtain ⟨b,cur,Ty,k1,k2,k3⟩:=h
   exact ⟨b,cur,Ty,h2.trans k1,by rw [hb.w]; exact k2,Jpq hb x _ hg.2 k3⟩
 | rows g sz xs =>
   simp only [goodE,Bool.and_eq_true] at hg
   rcases h with ⟨k1,k2⟩ | ⟨b,cur,Ty,cap,k1,k2,k3,k4,k5,k6⟩
   ·exact .inl ⟨h2.trans k1,k2⟩
   ·exact .inr ⟨b,cur,Ty,cap,h2.trans k1,by rw [hb.w]; exact k2,k3,k4,k5,JTB hb hg.2 k6⟩
 | ob g q x =>
   simp only [goodE,Bool.and_eq_true] at hg
   obtain ⟨b,o,cs,k1,k2,k3,k4⟩:=h
   exact ⟨b,o,cs,h2.trans k1,by rw [hb.w]; exact k2,k3,Jpq hb x _ hg.2 k4⟩
end
theorem JRp {w0:World} {Ws I0:Nat → Prop} {C C':Ctx} {L:Names} {T:List Nat} (hw:WR w0 Ws I0 C) (hs:Seen C C' L T) {want raw:AV} {x:Value} (h:Fit C.m L raw want) (ht:∀ l ∈ touch C.m raw want,l ∈ T)
 (hst:Stamped C'.used want) (k:SV C raw x):SV C' want x:=by
 have key:∀ {a:AV},a.isAgg = false → a.solid = true → SV C a x → Fit C.m L a want → (∀ l ∈ touch C.m a want,l ∈ T) → V C' want [x]:=fun ha hso k h ht=>V_fit hw hs want _ [x] h ht hst (k.oneOf hso ha)
 cases want with
 | top=>exact trivial
 | v y=>simp only [Fit] at h; subst h; exact key rfl rfl k (by simp [Fit]) ht
 | iptr y =>
   have h0:=h
   simp only [Fit] at h
   split at h <;> first | (cases h; done) | exact key rfl rfl k h0 ht
 | vrow=>simp [Fit] at h
 | rptr=>simp [Fit] at h
 | tup=>simp [Fit] at h
 | ptr k' g off =>
   have h0:=h
   simp only [Fit] at h
   split at h <;> first | (cases h; done) | exact key rfl rfl k h0 ht
 | oref k' g mp =>
   have h0:=h
   simp only [Fit] at h
   split at h <;> first | (cases h; done) | exact key rfl rfl k h0 ht
 | row k' sz g off n =>
   have h0:=h
   simp only [Fit] at h
   split at h <;> first | (cases h; done) | exact key rfl rfl k h0 ht
 | sl sz ws =>
   have h0:=h
   simp only [Fit] at h
   split at h <;> first | (cases h; done) | exact key rfl rfl k h0 ht
 | node ws =>
   have h0:=h
   simp only [Fit] at h
   split at h <;> first | (cases h; done) | skip
   obtain ⟨cs,e,k⟩:=k
   exact ⟨cs,e,V_fit hw hs _ _ _ h0 ht hst k⟩
 | arr sz ws =>
   have h0:=h
   simp only [Fit] at h
   split at h <;> first | (cases h; done) | skip
   obtain ⟨cs,e,k⟩:=k
   exact ⟨cs,e,V_fit hw hs _ _ _ h0 ht hst k⟩
theorem JZP {w0:World} {Ws I0:Nat → Prop} {C C':Ctx} {L:Names} {T:List Nat} (hw:WR w0 Ws I0 C) (hs:Seen C C' L T) : ∀ {wants raws:List AV} {ys:List Value},FitL C.m L raws wants → (∀ l ∈ touchL C.m raws wants,l ∈ T) →
 StampedL C'.used wants → SVl C raws ys → SVl C' wants ys
 | [],raws,ys,h,_,_,k=>by simp only [FitL] at h; subst h; exact k
 | w :: ws,raws,ys,h,ht,hst,k=>by
   simp only [FitL] at h
   obtain ⟨r,rs',rfl,h1,h2⟩:=h
   simp only [SVl,StampedL,touchL] at *
   obtain ⟨y,ys',e,k1,k2⟩:=k
   exact ⟨y,ys',e,JRp hw hs h1 (fun t htt=>ht t (List.mem_append_left _ htt)) hst.1 k1,JZP hw hs h2 (fun t htt=>ht t (List.mem_append_right _ htt)) hst.2 k2⟩
end
end Go.Proofs.YtlajjoekbcjfnaaGreatDoor.WL
