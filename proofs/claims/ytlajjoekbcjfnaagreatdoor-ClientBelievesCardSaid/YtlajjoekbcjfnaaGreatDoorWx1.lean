import Derived.WalkKit
import Derived.OwnWalk
import Derived.Lib.AppendStr
import Derived.Deep.AppendLies
import Derived.Deep.AppendSrc
import Derived.ArgAppend
import Derived.Laws.StructEq
import Derived.Lib.ConvBytes
import Derived.Laws.BytesArg
import Derived.Great.BuildSlice
namespace Go.Proofs.YtlajjoekbcjfnaaGreatDoor.WL
set_option linter.all false
section
open Go
inductive AV where
 | top
 | v (x:Value)
 | node (cs:List AV)
 | arr (sz:Nat) (xs:List AV)
 | sl (sz:Nat) (xs:List AV)
 | ptr (l g off:Nat)
 | row (l sz g off n:Nat)
 | vrow (l g off sz n cap:Nat)
 | iptr (x:AV)
 | rptr (l sz g i off:Nat)
 | oref (l g:Nat) (mp:Bool)
 | tup (vs:List AV)
instance : Inhabited AV := ⟨.top⟩
inductive OK where
 | map (ka:Bool) (ks:Nat) (va:Bool) (vs:Nat)
 | iter
inductive Loc where
 | var (g:Nat) (x:AV)
 | rows (g sz:Nat) (xs:List AV)
 | ob (g:Nat) (k:OK) (x:AV)
def Loc.gen : Loc → Nat
 | .var g _=>g
 | .rows g _ _=>g
 | .ob g _ _=>g
def Loc.same : Loc → Loc → Prop
 | .var g _,.var g' _=>g = g'
 | .rows g sz _,.rows g' sz' _=>g = g' ∧ sz = sz'
 | .ob g k _,.ob g' k' _=>g = g' ∧ k = k'
 | _,_=>False
theorem Loc.same_refl (c:Loc) : Loc.same c c := by cases c <;> simp [Loc.same]
structure Ctx where
 w:World
 I:Nat → Prop
 blk:Nat → Option Nat
 m:Nat → Option Loc
 used:Nat → Prop
def CellsAt (w:World) (b o:Nat) (cs:List Value) : Prop := ∀ j u,cs[j]? = some u → w.cell? ⟨b,o + j,none⟩ = some u
def objRef (mp:Bool) (r:Nat) : Value := if mp then .map (some r) else .pointer (some ⟨r,0,none⟩)
theorem JXv (mp:Bool) (r:Nat) : (objRef mp r).oneCell' = true := by cases mp <;> rfl
def RowVal (C:Ctx) (l sz off n:Nat) (x:Value) : Prop :=
 match C.blk l with
 | none=>off = 0 ∧ n = 0 ∧ ∃ a,x = .slice a 0 0
 | some b=>∃ cur T cap a,C.w.heap[b]? = some (.cells cur T (0,0)) ∧ cur.size = cap * sz ∧ cap ≤ maxLen ∧ off + n ≤ cap ∧
  x = .slice (some a) n (cap - off) ∧ (off < cap ∨ off = 0 → a = ⟨b,off * sz,none⟩)
mutual
def AV.size : AV → Nat
 | .node cs=>AV.sizes cs
 | .arr sz xs=>sz * xs.length
 | _=>1
def AV.sizes : List AV → Nat
 | []=>0
 | c :: cs=>AV.size c + AV.sizes cs
end
mutual
def V (C:Ctx) : AV → List Value → Prop
 | .top,cs=>∃ x,cs = [x] ∧ x.oneCell' = true
 | .v x,cs=>cs = [x] ∧ x.oneCell' = true
 | .node as,cs=>Vs C as cs
 | .arr sz xs,cs=>Es C sz xs cs
 | .sl sz xs,cs=>∃ a cap body,cs = [.slice a xs.length cap] ∧ xs.length ≤ cap ∧ cap ≤ maxLen ∧ Es C sz xs body ∧
  (xs = [] ∨ ∃ b o,a = some ⟨b,o,none⟩ ∧ C.I b ∧ CellsAt C.w b o body)
 | .ptr l g off,cs=>∃ a,cs = [.pointer (some a)] ∧ C.used g ∧ ∀ y,C.m l = some (.var g y) → ∃ b,C.blk l = some b ∧ a = ⟨b,off,none⟩
 | .row l sz g off n,cs=>∃ ao cap,cs = [.slice ao n cap] ∧ n ≤ cap ∧ cap ≤ maxLen ∧ (0 < n → ao.isSome = true) ∧ C.used g ∧ ∀ xs,C.m l = some (.rows g sz xs) → RowVal C l sz off n (.slice ao n cap)
 | .vrow l g off _ n cap,cs=>∃ a,cs = [.slice (some a) n cap] ∧ n ≤ cap ∧ cap ≤ maxLen ∧ C.used g ∧ ∀ y,C.m l = some (.var g y) → ∃ b,C.blk l = some b ∧ (0 < cap → a = ⟨b,off,none⟩)
 | .iptr x,cs=>∃ b o body,cs = [.pointer (some ⟨b,o,none⟩)] ∧ C.I b ∧ V C x body ∧ CellsAt C.w b o body
 | .rptr l sz g i off,cs=>∃ a,cs = [.pointer (some a)] ∧ C.used g ∧ ∀ xs,C.m l = some (.rows g sz xs) → ∃ b,C.blk l = some b ∧ a = ⟨b,i * sz + off,none⟩
 | .oref l g mp,cs=>∃ r,cs = [objRef mp r] ∧ C.used g ∧ ∀ k x,C.m l = some (.ob g k x) → C.blk l = some r
 | .tup _,_=>False
def Vs (C:Ctx) : List AV → List Value → Prop
 | [],cs=>cs = []
 | a :: as,cs=>∃ c1 c2,cs = c1 ++ c2 ∧ V C a c1 ∧ Vs C as c2
def Es (C:Ctx) (sz:Nat) : List AV → List Value → Prop
 | [],cs=>cs = []
 | a :: as,cs=>∃ c1 c2,cs = c1 ++ c2 ∧ c1.length = sz ∧ V C a c1 ∧ Es C sz as c2
end
structure Ctx.Le (C C':Ctx) : Prop where
 used:∀ g,C.used g → C'.used g
 I:∀ k,C.I k → C'.I k
 mem:∀ k,C.I k → C'.w.heap[k]? = C.w.heap[k]?
 loc:∀ l c',C'.m l = some c' → C.used c'.gen → ∃ c,C.m l = some c ∧ Loc.same c c' ∧ C'.blk l = C.blk l ∧
  ∀ b,C.blk l = some b → ∀ cur T,C.w.heap[b]? = some (.cells cur T (0,0)) → ∃ cur',C'.w.heap[b]? = some (.cells cur' T (0,0)) ∧ cur'.size = cur.size
theorem Ctx.Le.refl (C:Ctx) : C.Le C := ⟨fun _ h=>h,fun _ h=>h,fun _ _=>rfl,fun _ c h _=>⟨c,h,Loc.same_refl c,rfl,fun _ _ cur _ h=>⟨cur,h,rfl⟩⟩⟩
theorem Loc.same_gen {c c':Loc} (h:Loc.same c c') : c.gen = c'.gen := by
 cases c <;> cases c' <;> simp [Loc.same,Loc.gen] at * <;> first | exact h | exact h.1
theorem Loc.same_trans {a b c:Loc} (h:Loc.same a b) (k:Loc.same b c) : Loc.same a c := by
 cases a <;> cases b <;> cases c <;> simp [Loc.same] at * <;> first | exact h.trans k | exact ⟨h.1.trans k.1,h.2.trans k.2⟩
theorem Ctx.Le.trans {A B C:Ctx} (h:A.Le B) (k:B.Le C) : A.Le C := by
 refine ⟨fun g hg=>k.used g (h.used g hg),fun i hi=>k.I i (h.I i hi),fun i hi=>(k.mem i (h.I i hi)).trans (h.mem i hi),fun l c'' hc hg=>?_⟩
 obtain ⟨c',h1,h2,h3,h4⟩:=k.loc l c'' hc (h.used _ hg)
 obtain ⟨c,g1,g2,g3,g4⟩:=h.loc l c' h1 (by rw [Loc.same_gen h2]; exact hg)
 refine ⟨c,g1,Loc.same_trans g2 h2,h3.trans g3,fun b hb cur T hcur=>?_⟩
 obtain ⟨cur',e1,e2⟩:=g4 b hb cur T hcur
 obtain ⟨cur'',e3,e4⟩:=h4 b (g3 ▸ hb) cur' T e1
 exact ⟨cur'',e3,e4.trans e2⟩
theorem CellsAt.mono {w w':World} {b o:Nat} {cs:List Value} (h:CellsAt w b o cs) (e:w'.heap[b]? = w.heap[b]?) : CellsAt w' b o cs := by
 intro j u hu
 have:=h j u hu
 simpa [World.cell?,e] using this
theorem RowVal.mono {C C':Ctx} {l sz off n:Nat} {x:Value} (h:RowVal C l sz off n x) (e:C'.blk l = C.blk l)
 (k:∀ b,C.blk l = some b → ∀ cur T,C.w.heap[b]? = some (.cells cur T (0,0)) → ∃ cur',C'.w.heap[b]? = some (.cells cur' T (0,0)) ∧ cur'.size = cur.size):RowVal C' l sz off n x:=by
 unfold RowVal at *
 rw [e]
 cases hb:C.blk l with
 | none=>simpa [hb] using h
 | some b =>
   simp only [hb] at h ⊢
   obtain ⟨cur,T,cap,a,h1,h2,h3⟩:=h
   obtain ⟨cur',e1,e2⟩:=k b hb cur T h1
   exact ⟨cur',T,cap,a,e1,e2.trans h2,h3⟩
mutual
theorem JtJ {C C':Ctx} (h:C.Le C') : ∀ (a:AV) (cs:List Value),V C a cs → V C' a cs
 | .top,_,k=>by simpa [V] using k
 | .v x,_,k=>by simpa [V] using k
 | .node as,cs,k=>by simp only [V] at *; exact JQy h as cs k
 | .arr sz xs,cs,k=>by simp only [V] at *; exact Jj8 h sz xs cs k
 | .sl sz xs,cs,k=>by
   simp only [V] at *
   obtain ⟨a,cap,body,e,h1,h2,h3,h4⟩:=k
   refine ⟨a,cap,body,e,h1,h2,Jj8 h sz xs body h3,h4.imp id ?_⟩
   rintro ⟨b,o,h5,h6,h7⟩
   exact ⟨b,o,h5,h.I b h6,h7.mono (h.mem b h6)⟩
 | .ptr l g off,cs,k=>by
   simp only [V] at *
   obtain ⟨a,e,hg,k⟩:=k
   refine ⟨a,e,h.used _ hg,fun y hc=>?_⟩
   obtain ⟨c,h1,h2,h3,_⟩:=h.loc l _ hc (by simpa [Loc.gen] using hg)
   cases c with
   | var g y=>simp only [Loc.same] at h2; subst h2; rw [h3]; exact k _ h1
   | rows g' sz' xs'=>simp [Loc.same] at h2
   | ob _ _ _=>simp [Loc.same] at h2
 | .row l sz g off n,cs,k=>by
   simp only [V] at *
   obtain ⟨ao,cap,e,hn,hm,hs,hg,k⟩:=k
   refine ⟨ao,cap,e,hn,hm,hs,h.used _ hg,fun xs hc=>?_⟩
   obtain ⟨c,h1,h2,h3,h4⟩:=h.loc l _ hc (by simpa [Loc.gen] using hg)
   cases c with
   | var g y=>simp [Loc.same] at h2
   | rows g' sz' xs' =>
     simp only [Loc.same] at h2
     obtain ⟨rfl,rfl⟩:=h2
     exact (k _ h1).mono h3 h4
   | ob _ _ _=>simp [Loc.same] at h2
 | .vrow l g off sz n cap,cs,k=>by
   simp only [V] at *
   obtain ⟨a,e,hn,hm,hg,k⟩:=k
   refine ⟨a,e,hn,hm,h.used _ hg,fun y hc=>?_⟩
   obtain ⟨c,h1,h2,h3,_⟩:=h.loc l _ hc (by simpa [Loc.gen] using hg)
   cases c with
   | var g y=>simp only [Loc.same] at h2; subst h2; rw [h3]; exact k _ h1
   | rows g' sz' xs'=>simp [Loc.same] at h2
   | ob _ _ _=>simp [Loc.same] at h2
 | .iptr x,cs,k=>by
   simp only [V] at *
   obtain ⟨b,o,body,e,h1,h2,h3⟩:=k
   exact ⟨b,o,body,e,h.I b h1,JtJ h x body h2,h3.mono (h.mem b h1)⟩
 | .rptr l sz g i off,cs,k=>by
   simp only [V] at *
   obtain ⟨a,e,hg,k⟩:=k
   refine ⟨a,e,h.used _ hg,fun xs hc=>?_⟩
   obtain ⟨c,h1,h2,h3,_⟩:=h.loc l _ hc (by simpa [Loc.gen] using hg)
   cases c with
   | var g y=>simp [Loc.same] at h2
   | rows g' sz' xs' =>
     simp only [Loc.same] at h2
     obtain ⟨rfl,rfl⟩:=h2
     rw [h3]
     exact k _ h1
   | ob _ _ _=>simp [Loc.same] at h2
 | .oref l g mp,cs,k=>by
   simp only [V] at *
   obtain ⟨r,e,hg,k⟩:=k
   refine ⟨r,e,h.used _ hg,fun q y hc=>?_⟩
   obtain ⟨c,h1,h2,h3,_⟩:=h.loc l _ hc (by simpa [Loc.gen] using hg)
   cases c with
   | var _ _=>simp [Loc.same] at h2
   | rows _ _ _=>simp [Loc.same] at h2
   | ob g' k' y' =>
     simp only [Loc.same] at h2
     obtain ⟨rfl,rfl⟩:=h2
     rw [h3]
     exact k _ _ h1
 | .tup _,_,k=>by simp [V] at k
theorem JQy {C C':Ctx} (h:C.Le C') : ∀ (as:List AV) (cs:List Value),Vs C as cs → Vs C' as cs
 | [],_,k=>by simpa [Vs] using k
 | a :: as,cs,k=>by
   simp only [Vs] at *
   obtain ⟨c1,c2,e,h1,h2⟩:=k
   exact ⟨c1,c2,e,JtJ h a c1 h1,JQy h as c2 h2⟩
theorem Jj8 {C C':Ctx} (h:C.Le C') (sz:Nat) : ∀ (as:List AV) (cs:List Value),Es C sz as cs → Es C' sz as cs
 | [],_,k=>by simpa [Es] using k
 | a :: as,cs,k=>by
   simp only [Es] at *
   obtain ⟨c1,c2,e,hl,h1,h2⟩:=k
   exact ⟨c1,c2,e,hl,JtJ h a c1 h1,Jj8 h sz as c2 h2⟩
end
mutual
theorem JHV {C:Ctx} : ∀ (a:AV) (cs:List Value),V C a cs → ∀ u ∈ cs,u.oneCell' = true
 | .top,_,k=>by simp only [V] at k; obtain ⟨x,rfl,h⟩:=k; simpa using h
 | .v x,_,k=>by simp only [V] at k; obtain ⟨rfl,h⟩:=k; simpa using h
 | .node as,cs,k=>by simp only [V] at k; exact JP3 as cs k
 | .arr sz xs,cs,k=>by simp only [V] at k; exact JpF sz xs cs k
 | .sl sz xs,cs,k=>by simp only [V] at k; obtain ⟨_,_,_,rfl,_⟩:=k; simp [Value.oneCell']
 | .ptr ..,cs,k=>by simp only [V] at k; obtain ⟨_,rfl,_⟩:=k; simp [Value.oneCell']
 | .row ..,cs,k=>by simp only [V] at k; obtain ⟨_,_,rfl,_⟩:=k; simp [Value.oneCell']
 | .vrow ..,cs,k=>by simp only [V] at k; obtain ⟨_,rfl,_⟩:=k; simp [Value.oneCell']
 | .iptr x,cs,k=>by simp only [V] at k; obtain ⟨_,_,_,rfl,_⟩:=k; simp [Value.oneCell']
 | .rptr ..,cs,k=>by simp only [V] at k; obtain ⟨_,rfl,_⟩:=k; simp [Value.oneCell']
 | .oref ..,cs,k=>by simp only [V] at k; obtain ⟨_,rfl,_⟩:=k; simpa using JXv _ _
 | .tup _,_,k=>by simp [V] at k
theorem JP3 {C:Ctx} : ∀ (as:List AV) (cs:List Value),Vs C as cs → ∀ u ∈ cs,u.oneCell' = true
 | [],_,k=>by simp only [Vs] at k; simp [k]
 | a :: as,cs,k=>by
   simp only [Vs] at k
   obtain ⟨c1,c2,rfl,h1,h2⟩:=k
   intro u hu
   rcases List.mem_append.1 hu with h | h
   ·exact JHV a c1 h1 u h
   ·exact JP3 as c2 h2 u h
theorem JpF {C:Ctx} (sz:Nat) : ∀ (as:List AV) (cs:List Value),Es C sz as cs → ∀ u ∈ cs,u.oneCell' = true
 | [],_,k=>by simp only [Es] at k; simp [k]
 | a :: as,cs,k=>by
   simp only [Es] at k
   obtain ⟨c1,c2,rfl,_,h1,h2⟩:=k
   intro u hu
   rcases List.mem_append.1 hu with h | h
   ·exact JHV a c1 h1 u h
   ·exact JpF sz as c2 h2 u h
end
theorem Jw {C:Ctx} {sz:Nat} : ∀ {as:List AV} {cs:List Value},Es C sz as cs → cs.length = as.length * sz
 | [],cs,k=>by simp only [Es] at k; simp [k]
 | a :: as,cs,k=>by
   simp only [Es] at k
   obtain ⟨c1,c2,rfl,hl,_,h2⟩:=k
   rw [List.length_append,hl,Jw h2,List.length_cons,Nat.succ_mul,Nat.add_comm]
mutual
theorem Jbn {C:Ctx} : ∀ (a:AV) (cs:List Value),V C a cs → cs.length = a.size
 | .top,_,k=>by simp only [V] at k; obtain ⟨_,rfl,_⟩:=k; rfl
 | .v x,_,k=>by simp only [V] at k; simp [k,AV.size]
 | .node as,cs,k=>by simp only [V,AV.size] at *; exact JZk as cs k
 | .arr sz xs,cs,k=>by simp only [V,AV.size] at *; rw [Jw k,Nat.mul_comm]
 | .sl sz xs,cs,k=>by simp only [V] at k; obtain ⟨_,_,_,rfl,_⟩:=k; rfl
 | .ptr ..,cs,k=>by simp only [V] at k; obtain ⟨_,rfl,_⟩:=k; rfl
 | .row ..,cs,k=>by simp only [V] at k; obtain ⟨_,_,rfl,_⟩:=k; rfl
 | .vrow ..,cs,k=>by simp only [V] at k; obtain ⟨_,rfl,_⟩:=k; rfl
 | .iptr x,cs,k=>by simp only [V] at k; obtain ⟨_,_,_,rfl,_⟩:=k; rfl
 | .rptr ..,cs,k=>by simp only [V] at k; obtain ⟨_,rfl,_⟩:=k; rfl
 | .oref ..,cs,k=>by simp only [V] at k; obtain ⟨_,rfl,_⟩:=k; rfl
 | .tup _,_,k=>by simp [V] at k
theorem JZk {C:Ctx} : ∀ (as:List AV) (cs:List Value),Vs C as cs → cs.length = AV.sizes as
 | [],_,k=>by simp only [Vs] at k; simp [k,AV.sizes]
 | a :: as,cs,k=>by
   simp only [Vs] at k
   obtain ⟨c1,c2,rfl,h1,h2⟩:=k
   simp [AV.sizes,Jbn a c1 h1,JZk as c2 h2]
end
theorem JgP {C:Ctx} {sz:Nat} : ∀ {xs ys:List AV} {c1 c2:List Value},Es C sz xs c1 → Es C sz ys c2 → Es C sz (xs ++ ys) (c1 ++ c2)
 | [],ys,c1,c2,h,k=>by simp only [Es] at h; simpa [h] using k
 | x :: xs,ys,c1,c2,h,k=>by
   simp only [Es] at h
   obtain ⟨d1,d2,rfl,hl,h1,h2⟩:=h
   simp only [List.cons_append,Es]
   exact ⟨d1,d2 ++ c2,by simp,hl,h1,JgP h2 k⟩
theorem JH6 {C:Ctx} {sz:Nat} : ∀ {xs ys:List AV} {cs:List Value},Es C sz (xs ++ ys) cs → Es C sz xs (cs.take (xs.length * sz)) ∧ Es C sz ys (cs.drop (xs.length * sz))
 | [],ys,cs,h=>by simp [Es]; simpa using h
 | x :: xs,ys,cs,h=>by
   simp only [List.cons_append,Es] at h
   obtain ⟨d1,d2,rfl,hl,h1,h2⟩:=h
   obtain ⟨k1,k2⟩:=JH6 h2
   have e:(x :: xs).length * sz = d1.length + xs.length * sz:=by rw [List.length_cons,Nat.succ_mul,hl,Nat.add_comm]
   rw [e]
   refine ⟨?_,?_⟩
   ·simp only [Es]
    exact ⟨d1,d2.take (xs.length * sz),by rw [List.take_append,List.take_of_length_le (by omega)]; simp,hl,h1,k1⟩
   ·rw [List.drop_append,List.drop_of_length_le (l:=d1) (by omega)]; simpa using k2
theorem JP4 {C:Ctx} {sz i:Nat} {xs:List AV} {x:AV} {cs:List Value} (h:Es C sz xs cs) (hx:xs[i]? = some x) :
 V C x ((cs.drop (i * sz)).take sz) ∧ ((cs.drop (i * sz)).take sz).length = sz:=by
 obtain ⟨hi,rfl⟩:=List.getElem?_eq_some_iff.1 hx
 have e:xs = xs.take i ++ xs[i] :: xs.drop (i + 1):=by rw [List.getElem_cons_drop]; simp
 rw [e] at h
 have k:=(JH6 h).2
 rw [List.length_take,Nat.min_eq_left (Nat.le_of_lt hi)] at k
 simp only [Es] at k
 obtain ⟨d1,d2,e1,hl,h1,_⟩:=k
 rw [e1,List.take_append,← hl]
 simp only [List.take_length,Nat.sub_self,List.take_zero,List.append_nil]
 exact ⟨h1,trivial⟩
theorem JZe {C:Ctx} {sz i:Nat} {xs:List AV} {y:AV} {cs d:List Value} (h:Es C sz xs cs) (hi:i < xs.length) (hd:d.length = sz) (hy:V C y d) :
 Es C sz (xs.set i y) (cs.take (i * sz) ++ d ++ cs.drop (i * sz + sz)):=by
 have e:xs = xs.take i ++ (xs[i] :: xs.drop (i + 1)):=by rw [List.getElem_cons_drop]; simp
 have hl:=Jw h
 rw [e] at h
 obtain ⟨k1,k2⟩:=JH6 h
 rw [List.length_take,Nat.min_eq_left (Nat.le_of_lt hi)] at k1 k2
 simp only [Es] at k2
 obtain ⟨d1,d2,e1,hl1,_,h2⟩:=k2
 have e2:xs.set i y = xs.take i ++ (y :: xs.drop (i + 1)):=by rw [List.set_eq_take_append_cons_drop,if_pos hi]
 rw [e2,List.append_assoc]
 refine JgP k1 ?_
 simp only [Es]
 refine ⟨d,_,rfl,hd,hy,?_⟩
 have e3:cs.drop (i * sz + sz) = d2:=by
  rw [← List.drop_drop,e1,← hl1]; simp
 rw [e3]; exact h2
theorem J2I {C:Ctx} {sz:Nat} : Es C sz [] [] := by simp [Es]
theorem J7u {C:Ctx} {sz:Nat} {x:AV} {cs:List Value} (h:V C x cs) (hl:cs.length = sz) : Es C sz [x] cs := by
 simp only [Es]; exact ⟨cs,[],by simp,hl,h,rfl⟩
theorem JKY {C:Ctx} {sz n:Nat} {xs:List AV} {cs:List Value} (h:Es C sz xs cs) : Es C sz (xs.take n) (cs.take (n * sz)) := by
 have h':=h
 rw [← List.take_append_drop n xs] at h'
 have k:=(JH6 h').1
 rcases Nat.le_total n xs.length with hn | hn
 ·rwa [List.length_take,Nat.min_eq_left hn] at k
 ·have hl:=Jw h
  have h2:cs.length ≤ n * sz:=by rw [hl]; exact Nat.mul_le_mul_right _ hn
  rw [List.take_of_length_le hn,List.take_of_length_le h2]
  exact h
theorem JN4 {C:Ctx} {sz n:Nat} {xs:List AV} {cs:List Value} (h:Es C sz xs cs) : Es C sz (xs.drop n) (cs.drop (n * sz)) := by
 have h':=h
 rw [← List.take_append_drop n xs] at h'
 have k:=(JH6 h').2
 rcases Nat.le_total n xs.length with hn | hn
 ·rwa [List.length_take,Nat.min_eq_left hn] at k
 ·have hl:=Jw h
  have h2:cs.length ≤ n * sz:=by rw [hl]; exact Nat.mul_le_mul_right _ hn
  rw [List.drop_of_length_le hn,List.drop_of_length_le h2]
  exact J2I
end
section
open Go
def upd {α:Type} (f:Nat → α) (k:Nat) (v:α) : Nat → α := fun j => if j = k then v else f j
@[simp] theorem JU {α:Type} (f:Nat → α) (k:Nat) (v:α) : upd f k v k = v := by simp [upd]
theorem Jx {α:Type} (f:Nat → α) {k j:Nat} (v:α) (h:j ≠ k) : upd f k v j = f j := by simp [upd,h]
def valOf (agg:Bool) (cs:List Value) : Value := if agg then .agg cs.toArray else cs.headD undef
def entCells (p:List Value × List Value × Nat) : List Value := p.1 ++ p.2.1 ++ [.int .i64 (p.2.2:Nat)]
def entOf (ka va:Bool) (p:List Value × List Value × Nat) : MapEntry := ⟨valOf ka p.1,valOf va p.2.1,p.2.2⟩
def ObV : OK → Obj → List Value → Prop
 | .map ka ks va vs,.map es clock,cs=>∃ ps:List (List Value × List Value × Nat),es.toList = ps.map (entOf ka va) ∧ (∀ p ∈ ps,p.1.length = ks ∧ p.2.1.length = vs) ∧ cs = ps.flatMap entCells ++ [.int .i64 (clock:Nat)]
 | .iter,.mapIter m since seen last,cs=>cs = .map m :: .int .i64 (since:Nat) :: .int .i64 (last:Nat) :: seen.toList.map (fun (n:Nat)=>Value.int .i64 (n:Nat))
 | _,_,_=>False
def LocOk (C:Ctx) (l:Nat) : Loc → Prop
 | .ob _ k x=>∃ b o cs,C.blk l = some b ∧ C.w.heap[b]? = some o ∧ ObV k o cs ∧ V C x cs
 | .var _ x=>∃ b cur T,C.blk l = some b ∧ C.w.heap[b]? = some (.cells cur T (0,0)) ∧ V C x cur.toList
 | .rows _ sz xs=>(C.blk l = none ∧ xs = []) ∨ ∃ b cur T cap,C.blk l = some b ∧ C.w.heap[b]? = some (.cells cur T (0,0)) ∧ cur.size = cap * sz ∧ cap ≤ maxLen ∧
  xs.length ≤ cap ∧ Es C sz xs (cur.toList.take (xs.length * sz))
theorem LocOk.mono {C C':Ctx} {l:Nat} {c:Loc} (h:LocOk C l c) (hle:C.Le C') (hb:C'.blk l = C.blk l) (hw:∀ b,C.blk l = some b → C'.w.heap[b]? = C.w.heap[b]?) : LocOk C' l c := by
 cases c with
 | var g x =>
   obtain ⟨b,cur,T,h1,h2,h3⟩:=h
   exact ⟨b,cur,T,hb.trans h1,(hw b h1).trans h2,JtJ hle _ _ h3⟩
 | rows g sz xs =>
   rcases h with ⟨h1,h2⟩ | ⟨b,cur,T,cap,h1,h2,h3,h4,h5,h6⟩
   ·exact .inl ⟨hb.trans h1,h2⟩
   ·exact .inr ⟨b,cur,T,cap,hb.trans h1,(hw b h1).trans h2,h3,h4,h5,Jj8 hle _ _ _ h6⟩
 | ob g k x =>
   obtain ⟨b,o,cs,h1,h2,h3,h4⟩:=h
   exact ⟨b,o,cs,hb.trans h1,(hw b h1).trans h2,h3,JtJ hle _ _ h4⟩
structure WR (w0:World) (Ws I0:Nat → Prop) (C:Ctx) : Prop where
 locs:∀ l c,C.m l = some c → LocOk C l c
 inj:∀ l l' c c' b,C.m l = some c → C.m l' = some c' → C.blk l = some b → C.blk l' = some b → l = l'
 own:∀ l c b,C.m l = some c → C.blk l = some b → b < C.w.heap.size ∧ ¬ C.I b ∧ (Ws b ∨ w0.heap.size ≤ b)
 imm:∀ k,C.I k → k < C.w.heap.size ∧ (I0 k ∨ Ws k ∨ w0.heap.size ≤ k)
 imm0:∀ k,I0 k → C.I k
 gens:∀ l c,C.m l = some c → C.used c.gen
 os:C.w.os = w0.os
 tape:C.w.tape = w0.tape
 output:C.w.output = w0.output
 size:w0.heap.size ≤ C.w.heap.size
 block:∀ k,k < w0.heap.size → ¬ Ws k → C.w.heap[k]? = w0.heap[k]?
section
variable {w0:World} {Ws I0:Nat → Prop} {C:Ctx}
theorem WR.world (h:WR w0 Ws I0 C) {w':World} (hg:C.w.grownBy w' none) : C.Le { C with w:=w' } ∧ WR w0 Ws I0 { C with w:=w' } := by
 have hb:∀ k,k < C.w.heap.size → w'.heap[k]? = C.w.heap[k]?:=fun k hk=>hg.block k hk (by simp)
 have hle:C.Le { C with w:=w' }:=by
  refine ⟨fun _ h=>h,fun _ h=>h,fun k hk=>hb k (h.imm k hk).1,fun l c hc _=>⟨c,hc,Loc.same_refl c,rfl,fun b hbl cur T hcur=>⟨cur,?_,rfl⟩⟩⟩
  exact (hb b (h.own l c b hc hbl).1).trans hcur
 refine ⟨hle,⟨fun l c hc=>(h.locs l c hc).mono hle rfl (fun b hbl=>hb b (h.own l c b hc hbl).1),h.inj,fun l c b hc hbl=>?_,fun k hk=>?_,h.imm0,h.gens,
  hg.os.trans h.os,hg.tape.trans h.tape,hg.output.trans h.output,Nat.le_trans h.size hg.size,fun k hk hn=>(hb k (Nat.lt_of_lt_of_le hk h.size)).trans (h.block k hk hn)⟩⟩
 ·obtain ⟨h1,h2,h3⟩:=h.own l c b hc hbl
  exact ⟨Nat.lt_of_lt_of_le h1 hg.size,h2,h3⟩
 ·obtain ⟨h1,h2⟩:=h.imm k hk
  exact ⟨Nat.lt_of_lt_of_le h1 hg.size,h2⟩
theorem WR.putG (h:WR w0 Ws I0 C) {l b:Nat} {c c':Loc} {w':World} (hl:C.m l = some c) (hb:C.blk l = some b)
 (hg:C.w.grownBy w' (some b)) (hsame:∀ cur T,C.w.heap[b]? = some (.cells cur T (0,0)) → ∃ cur',w'.heap[b]? = some (.cells cur' T (0,0)) ∧ cur'.size = cur.size) (hs:Loc.same c c') :
 C.Le { C with w:=w',m:=upd C.m l (some c') } ∧ (LocOk { C with w:=w',m:=upd C.m l (some c') } l c' → WR w0 Ws I0 { C with w:=w',m:=upd C.m l (some c') }):=by
 have hk:∀ k,k < C.w.heap.size → k ≠ b → w'.heap[k]? = C.w.heap[k]?:=fun k hk hn=>hg.block k hk (by simpa using hn)
 obtain ⟨hb1,hb2,hb3⟩:=h.own l c b hl hb
 have hle:C.Le { C with w:=w',m:=upd C.m l (some c') }:=by
  refine ⟨fun _ h=>h,fun _ h=>h,fun k hi=>hk k (h.imm k hi).1 (fun e=>hb2 (e ▸ hi)),fun l' c'' hc _=>?_⟩
  by_cases e:l' = l
  ·subst e
   simp only [JU,Option.some.injEq] at hc
   subst hc
   refine ⟨c,hl,hs,rfl,fun b' hb' cur2 T2 h2=>?_⟩
   rw [hb] at hb'
   obtain rfl:=Option.some.inj hb'
   exact hsame cur2 T2 h2
  ·simp only [Jx _ _ e] at hc
   refine ⟨c'',hc,Loc.same_refl _,rfl,fun b' hb' cur2 T2 h2=>⟨cur2,?_,rfl⟩⟩
   refine (hk b' (h.own l' c'' b' hc hb').1 (fun e2=>e ?_)).trans h2
   subst e2
   exact h.inj l' l c'' c b' hc hl hb' hb
 refine ⟨hle,fun hok=>⟨fun l' c'' hc=>?_,fun l1 l2 c1 c2 b' h1 h2 h3 h4=>?_,fun l' c'' b' hc hb'=>?_,fun k hi=>?_,h.imm0,fun l' c'' hc=>?_,
  hg.os.trans h.os,hg.tape.trans h.tape,hg.output.trans h.output,Nat.le_trans h.size hg.size,fun k hk' hn=>?_⟩⟩
 ·by_cases e:l' = l
  ·subst e
   simp only [JU,Option.some.injEq] at hc
   subst hc
   exact hok
  ·simp only [Jx _ _ e] at hc
   refine (h.locs l' c'' hc).mono hle rfl (fun b' hb'=>hk b' (h.own l' c'' b' hc hb').1 (fun e2=>e ?_))
   subst e2
   exact h.inj l' l c'' c b' hc hl hb' hb
 ·have g:∀ l1 c1,upd C.m l (some c') l1 = some c1 → ∃ c1',C.m l1 = some c1':=by
   intro l1 c1 hx
   by_cases e:l1 = l
   ·exact ⟨c,e ▸ hl⟩
   ·exact ⟨c1,by simpa [Jx _ _ e] using hx⟩
  obtain ⟨d1,e1⟩:=g l1 c1 h1
  obtain ⟨d2,e2⟩:=g l2 c2 h2
  exact h.inj l1 l2 d1 d2 b' e1 e2 h3 h4
 ·have:∃ d,C.m l' = some d:=by
   by_cases e:l' = l
   ·exact ⟨c,e ▸ hl⟩
   ·exact ⟨c'',by simpa [Jx _ _ e] using hc⟩
  obtain ⟨d,hd⟩:=this
  obtain ⟨h1,h2,h3⟩:=h.own l' d b' hd hb'
  exact ⟨Nat.lt_of_lt_of_le h1 hg.size,h2,h3⟩
 ·obtain ⟨h1,h2⟩:=h.imm k hi
  exact ⟨Nat.lt_of_lt_of_le h1 hg.size,h2⟩
 ·by_cases e:l' = l
  ·subst e
   simp only [JU,Option.some.injEq] at hc
   subst hc
   rw [← Loc.same_gen hs]
   exact h.gens l' c hl
  ·simp only [Jx _ _ e] at hc
   exact h.gens l' c'' hc
 ·rcases hb3 with hb3 | hb3
  ·exact (hk k (Nat.lt_of_lt_of_le hk' h.size) (fun e=>hn (e ▸ hb3))).trans (h.block k hk' hn)
  ·exact (hk k (Nat.lt_of_lt_of_le hk' h.size) (fun e=>by omega)).trans (h.block k hk' hn)
theorem WR.put (h:WR w0 Ws I0 C) {l b:Nat} {c c':Loc} {w':World} {cur cur':Array Value} {T:TypeId} (hl:C.m l = some c) (hb:C.blk l = some b) (hcur:C.w.heap[b]? = some (.cells cur T (0,0)))
 (hg:C.w.grownBy w' (some b)) (hcur':w'.heap[b]? = some (.cells cur' T (0,0))) (hsz:cur'.size = cur.size) (hs:Loc.same c c') :
 C.Le { C with w:=w',m:=upd C.m l (some c') } ∧ (LocOk { C with w:=w',m:=upd C.m l (some c') } l c' → WR w0 Ws I0 { C with w:=w',m:=upd C.m l (some c') }) :=
 h.putG hl hb hg (fun cur2 T2 h2=>by
  rw [hcur] at h2
  obtain ⟨rfl,rfl,_⟩:=(by simpa using h2:cur = cur2 ∧ T = T2)
  exact ⟨cur',hcur',hsz⟩) hs
theorem WR.putO (h:WR w0 Ws I0 C) {l b:Nat} {c c':Loc} {w':World} {o:Obj} (hl:C.m l = some c) (hb:C.blk l = some b) (ho:C.w.heap[b]? = some o) (hn:∀ cur T fr,o ≠ .cells cur T fr)
 (hg:C.w.grownBy w' (some b)) (hs:Loc.same c c') :
 C.Le { C with w:=w',m:=upd C.m l (some c') } ∧ (LocOk { C with w:=w',m:=upd C.m l (some c') } l c' → WR w0 Ws I0 { C with w:=w',m:=upd C.m l (some c') }) :=
 h.putG hl hb hg (fun cur T h2=>by
  rw [ho] at h2
  exact absurd (Option.some.inj h2) (hn _ _ _)) hs
theorem WR.regen (h:WR w0 Ws I0 C) {l g:Nat} {c':Loc} {w':World} {row B:Option Nat} (hg:C.w.grownBy w' row) (hgen:c'.gen = g) (hnew:¬ C.used g)
 (hrow:row = none ∨ ∃ c,C.m l = some c ∧ row = C.blk l)
 (hB:B = none ∨ (∃ c,C.m l = some c ∧ B = C.blk l) ∨ ∃ b,B = some b ∧ C.w.heap.size ≤ b ∧ b < w'.heap.size) :
 C.Le ⟨w',C.I,upd C.blk l B,upd C.m l (some c'),fun k=>C.used k ∨ k = g⟩ ∧
  (LocOk ⟨w',C.I,upd C.blk l B,upd C.m l (some c'),fun k=>C.used k ∨ k = g⟩ l c' → WR w0 Ws I0 ⟨w',C.I,upd C.blk l B,upd C.m l (some c'),fun k=>C.used k ∨ k = g⟩):=by
 have hk:∀ k,k < C.w.heap.size → (∀ c,C.m l = some c → C.blk l ≠ some k) → w'.heap[k]? = C.w.heap[k]?:=by
  intro k hk hn
  refine hg.block k hk ?_
  rcases hrow with rfl | ⟨c,hc,rfl⟩
  ·simp
  ·exact fun e=>hn c hc e.symm
 have hI:∀ k,C.I k → w'.heap[k]? = C.w.heap[k]?:=fun k hi=>hk k (h.imm k hi).1 (fun c hc e=>(h.own l c k hc e).2.1 hi)
 have hother:∀ l' c'' b',l' ≠ l → C.m l' = some c'' → C.blk l' = some b' → w'.heap[b']? = C.w.heap[b']?:=fun l' c'' b' e hc hb' =>
  hk b' (h.own l' c'' b' hc hb').1 (fun c hc2 e2=>e (h.inj l' l c'' c b' hc hc2 hb' e2))
 have hle:C.Le ⟨w',C.I,upd C.blk l B,upd C.m l (some c'),fun k=>C.used k ∨ k = g⟩:=by
  refine ⟨fun _ h=>.inl h,fun _ h=>h,hI,fun l' c'' hc hu=>?_⟩
  by_cases e:l' = l
  ·subst e
   simp only [JU,Option.some.injEq] at hc
   subst hc
   exact absurd (hgen ▸ hu) hnew
  ·simp only [Jx _ _ e] at hc ⊢
   exact ⟨c'',hc,Loc.same_refl _,trivial,fun b' hb' cur2 T2 h2=>⟨cur2,(hother l' c'' b' e hc hb').trans h2,rfl⟩⟩
 have hown:∀ b,B = some b → b < w'.heap.size ∧ ¬ C.I b ∧ (Ws b ∨ w0.heap.size ≤ b):=by
  intro b hb
  rcases hB with e | ⟨c,hc,e⟩ | ⟨b',e,h1,h2⟩
  ·rw [e] at hb; cases hb
  ·obtain ⟨h1,h2,h3⟩:=h.own l c b hc (by rw [← e]; exact hb)
   exact ⟨Nat.lt_of_lt_of_le h1 hg.size,h2,h3⟩
  ·rw [e] at hb
   obtain rfl:=Option.some.inj hb
   exact ⟨h2,fun hi=>by have:=(h.imm _ hi).1; omega,.inr (Nat.le_trans h.size h1)⟩
 have hne:∀ l' c'' b,l' ≠ l → C.m l' = some c'' → C.blk l' = some b → B ≠ some b:=by
  intro l' c'' b e hc hb hB'
  rcases hB with e1 | ⟨c,hc1,e1⟩ | ⟨b',e1,h1,_⟩
  ·rw [e1] at hB'; cases hB'
  ·exact e (h.inj l' l c'' c b hc hc1 hb (by rw [← e1]; exact hB'))
  ·rw [e1] at hB'
   obtain rfl:=Option.some.inj hB'
   have:=(h.own l' c'' _ hc hb).1
   omega
 refine ⟨hle,fun hok=>⟨fun l' c'' hc=>?_,fun l1 l2 c1 c2 b' h1 h2 h3 h4=>?_,fun l' c'' b' hc hb'=>?_,fun k hi=>?_,h.imm0,fun l' c'' hc=>?_,
  hg.os.trans h.os,hg.tape.trans h.tape,hg.output.trans h.output,Nat.le_trans h.size hg.size,fun k hk' hn=>?_⟩⟩
 ·by_cases e:l' = l
  ·subst e
   simp only [JU,Option.some.injEq] at hc
   subst hc
   exact hok
  ·simp only [Jx _ _ e] at hc
   exact (h.locs l' c'' hc).mono hle (by simp [Jx _ _ e]) (fun b' hb'=>hother l' c'' b' e hc hb')
 ·by_cases e1:l1 = l <;> by_cases e2:l2 = l
  ·exact e1.trans e2.symm
  ·subst e1
   simp only [JU] at h3
   simp only [Jx _ _ e2] at h2 h4
   exact absurd h3 (hne l2 c2 b' e2 h2 h4)
  ·subst e2
   simp only [JU] at h4
   simp only [Jx _ _ e1] at h1 h3
   exact absurd h4 (hne l1 c1 b' e1 h1 h3)
  ·simp only [Jx _ _ e1] at h1 h3
   simp only [Jx _ _ e2] at h2 h4
   exact h.inj l1 l2 c1 c2 b' h1 h2 h3 h4
 ·by_cases e:l' = l
  ·subst e
   simp only [JU] at hb'
   exact hown b' hb'
  ·simp only [Jx _ _ e] at hc hb'
   obtain ⟨h1,h2,h3⟩:=h.own l' c'' b' hc hb'
   exact ⟨Nat.lt_of_lt_of_le h1 hg.size,h2,h3⟩
 ·obtain ⟨h1,h2⟩:=h.imm k hi
  exact ⟨Nat.lt_of_lt_of_le h1 hg.size,h2⟩
 ·by_cases e:l' = l
  ·subst e
   simp only [JU,Option.some.injEq] at hc
   subst hc
   exact .inr hgen
  ·simp only [Jx _ _ e] at hc
   exact .inl (h.gens l' c'' hc)
 ·refine (hk k (Nat.lt_of_lt_of_le hk' h.size) (fun c hc e=>?_)).trans (h.block k hk' hn)
  rcases (h.own l c k hc e).2.2 with h1 | h1
  ·exact hn h1
  ·omega
theorem WR.gone (h:WR w0 Ws I0 C) (l:Nat) : C.Le { C with m:=upd C.m l none } ∧ WR w0 Ws I0 { C with m:=upd C.m l none } := by
 have g:∀ l' c,upd C.m l none l' = some c → C.m l' = some c:=by
  intro l' c hc
  by_cases e:l' = l
  ·subst e; simp at hc
  ·simpa [Jx _ _ e] using hc
 have hle:C.Le { C with m:=upd C.m l none } :=
  ⟨fun _ h=>h,fun _ h=>h,fun _ _=>rfl,fun l' c hc _=>⟨c,g l' c hc,Loc.same_refl c,rfl,fun _ _ cur _ hcur=>⟨cur,hcur,rfl⟩⟩⟩
 exact ⟨hle,fun l' c hc=>(h.locs l' c (g l' c hc)).mono hle rfl (fun _ _=>rfl),fun l1 l2 c1 c2 b h1 h2=>h.inj l1 l2 c1 c2 b (g _ _ h1) (g _ _ h2),
  fun l' c b hc=>h.own l' c b (g _ _ hc),h.imm,h.imm0,fun l' c hc=>h.gens l' c (g _ _ hc),h.os,h.tape,h.output,h.size,h.block⟩
theorem WR.restrict (h:WR w0 Ws I0 C) {m':Nat → Option Loc} (g:∀ l c,m' l = some c → C.m l = some c) : C.Le { C with m:=m' } ∧ WR w0 Ws I0 { C with m:=m' } := by
 have hle:C.Le { C with m:=m' } :=
  ⟨fun _ h=>h,fun _ h=>h,fun _ _=>rfl,fun l' c hc _=>⟨c,g l' c hc,Loc.same_refl c,rfl,fun _ _ cur _ hcur=>⟨cur,hcur,rfl⟩⟩⟩
 exact ⟨hle,fun l' c hc=>(h.locs l' c (g l' c hc)).mono hle rfl (fun _ _=>rfl),fun l1 l2 c1 c2 b h1 h2=>h.inj l1 l2 c1 c2 b (g _ _ h1) (g _ _ h2),
  fun l' c b hc=>h.own l' c b (g _ _ hc),h.imm,h.imm0,fun l' c hc=>h.gens l' c (g _ _ hc),h.os,h.tape,h.output,h.size,h.block⟩
theorem WR.freezeW (h:WR w0 Ws I0 C) {l b:Nat} {c:Loc} {w':World} (hl:C.m l = some c) (hb:C.blk l = some b) (hg:C.w.grownBy w' (some b)) :
 C.Le { C with w:=w',I:=fun k=>C.I k ∨ k = b,m:=upd C.m l none } ∧ WR w0 Ws I0 { C with w:=w',I:=fun k=>C.I k ∨ k = b,m:=upd C.m l none }:=by
 have g:∀ l' c,upd C.m l none l' = some c → C.m l' = some c ∧ l' ≠ l:=by
  intro l' c hc
  by_cases e:l' = l
  ·subst e; simp at hc
  ·exact ⟨by simpa [Jx _ _ e] using hc,e⟩
 obtain ⟨h1,h2,h3⟩:=h.own l c b hl hb
 have hk:∀ k,k < C.w.heap.size → k ≠ b → w'.heap[k]? = C.w.heap[k]?:=fun k hk hn=>hg.block k hk (by simpa using hn)
 have hother:∀ l' c' b',l' ≠ l → C.m l' = some c' → C.blk l' = some b' → w'.heap[b']? = C.w.heap[b']?:=fun l' c' b' e hc hb' =>
  hk b' (h.own l' c' b' hc hb').1 (fun e2=>e (h.inj l' l c' c b' hc hl hb' (e2 ▸ hb)))
 have hle:C.Le { C with w:=w',I:=fun k=>C.I k ∨ k = b,m:=upd C.m l none } :=
  ⟨fun _ h=>h,fun _ h=>.inl h,fun k hi=>hk k (h.imm k hi).1 (fun e=>h2 (e ▸ hi)),
   fun l' c' hc _=>⟨c',(g l' c' hc).1,Loc.same_refl c',rfl,fun b' hb' cur _ hcur=>⟨cur,(hother l' c' b' (g l' c' hc).2 (g l' c' hc).1 hb').trans hcur,rfl⟩⟩⟩
 refine ⟨hle,fun l' c' hc=>(h.locs l' c' (g l' c' hc).1).mono hle rfl (fun b' hb'=>hother l' c' b' (g l' c' hc).2 (g l' c' hc).1 hb'),fun l1 l2 c1 c2 b h1 h2=>h.inj l1 l2 c1 c2 b (g _ _ h1).1 (g _ _ h2).1,
  fun l' c' b' hc hb'=>?_,fun k hi=>?_,fun k hk=>.inl (h.imm0 k hk),fun l' c hc=>h.gens l' c (g _ _ hc).1,hg.os.trans h.os,hg.tape.trans h.tape,hg.output.trans h.output,Nat.le_trans h.size hg.size,fun k hk' hn=>?_⟩
 ·obtain ⟨k1,k2,k3⟩:=h.own l' c' b' (g _ _ hc).1 hb'
  refine ⟨Nat.lt_of_lt_of_le k1 hg.size,fun hk=>?_,k3⟩
  rcases hk with hk | rfl
  ·exact k2 hk
  ·exact (g _ _ hc).2 (h.inj l' l c' c _ (g _ _ hc).1 hl hb' hb)
 ·rcases hi with hi | rfl
  ·exact ⟨Nat.lt_of_lt_of_le (h.imm k hi).1 hg.size,(h.imm k hi).2⟩
  ·exact ⟨Nat.lt_of_lt_of_le h1 hg.size,.inr h3⟩
 ·refine (hk k (Nat.lt_of_lt_of_le hk' h.size) (fun e=>?_)).trans (h.block k hk' hn)
  subst e
  rcases h3 with h3 | h3
  ·exact hn h3
  ·omega
theorem World.grownBy_self (w:World) (row:Option Nat) : w.grownBy w row := ⟨rfl,rfl,rfl,Nat.le_refl _,fun _ _ _=>rfl⟩
theorem WR.freeze (h:WR w0 Ws I0 C) {l b:Nat} {c:Loc} (hl:C.m l = some c) (hb:C.blk l = some b) :
 C.Le { C with I:=fun k=>C.I k ∨ k = b,m:=upd C.m l none } ∧ WR w0 Ws I0 { C with I:=fun k=>C.I k ∨ k = b,m:=upd C.m l none } :=
 h.freezeW hl hb (World.grownBy_self C.w _)
theorem WR.newI (h:WR w0 Ws I0 C) {w':World} (hg:C.w.grownBy w' none) {b:Nat} (h1:C.w.heap.size ≤ b) (h2:b < w'.heap.size) :
 C.Le { C with w:=w',I:=fun k=>C.I k ∨ k = b } ∧ WR w0 Ws I0 { C with w:=w',I:=fun k=>C.I k ∨ k = b }:=by
 obtain ⟨hle,hw⟩:=h.world hg
 have hle2:Ctx.Le { C with w:=w' } { C with w:=w',I:=fun k=>C.I k ∨ k = b } :=
  ⟨fun _ h=>h,fun _ h=>.inl h,fun _ _=>rfl,fun l c hc _=>⟨c,hc,Loc.same_refl c,rfl,fun _ _ cur _ hcur=>⟨cur,hcur,rfl⟩⟩⟩
 refine ⟨hle.trans hle2,⟨fun l c hc=>(hw.locs l c hc).mono hle2 rfl (fun _ _=>rfl),h.inj,fun l c b' hc hb'=>?_,fun k hk=>?_,fun k hk=>.inl (h.imm0 k hk),h.gens,
  hw.os,hw.tape,hw.output,hw.size,hw.block⟩⟩
 ·obtain ⟨k1,k2,k3⟩:=hw.own l c b' hc hb'
  refine ⟨k1,fun hk=>?_,k3⟩
  rcases hk with hk | rfl
  ·exact k2 hk
  ·have:=(h.own l c _ hc hb').1; omega
 ·rcases hk with hk | rfl
  ·exact hw.imm k hk
  ·exact ⟨h2,.inr (.inr (Nat.le_trans h.size h1))⟩
end
end
section
open Go
def AV.isAgg : AV → Bool
 | .node _ | .arr _ _=>true
 | _=>false
def SV1 (C:Ctx) (a:AV) (x:Value) : Prop :=
 match a with
 | .top=>True
 | .tup _=>False
 | .node _ | .arr _ _=>∃ cs,x = .agg cs ∧ V C a cs.toList
 | _=>V C a [x]
def SVs (C:Ctx) : List AV → List Value → Prop
 | [],xs=>xs = []
 | a :: as,xs=>∃ y ys,xs = y :: ys ∧ SV1 C a y ∧ SVs C as ys
def SV (C:Ctx) (a:AV) (x:Value) : Prop :=
 match a with
 | .tup as=>∃ xs,x = .tuple xs ∧ SVs C as xs.toList
 | a=>SV1 C a x
theorem SV1.mono {C C':Ctx} (h:C.Le C') {a:AV} {x:Value} (k:SV1 C a x) : SV1 C' a x := by
 cases a <;> first
  | exact trivial
  | exact JtJ h _ _ k
  | exact k.elim
  | (obtain ⟨cs,e,h1⟩:=k; exact ⟨cs,e,JtJ h _ _ h1⟩)
theorem SVs.mono {C C':Ctx} (h:C.Le C') : ∀ {as:List AV} {xs:List Value},SVs C as xs → SVs C' as xs
 | [],_,k=>k
 | _ :: _,_,⟨y,ys,e,h1,h2⟩=>⟨y,ys,e,h1.mono h,h2.mono h⟩
theorem JV2 {C:Ctx} {a:AV} {x:Value} (k:SV1 C a x) : SV C a x := by
 cases a <;> first | exact k.elim | exact k
theorem SV.mono {C C':Ctx} (h:C.Le C') {a:AV} {x:Value} (k:SV C a x) : SV C' a x := by
 cases a with
 | tup as=>obtain ⟨xs,e,h1⟩:=k; exact ⟨xs,e,h1.mono h⟩
 | top=>exact trivial
 | v y=>exact SV1.mono (a:=.v y) h k
 | node as=>exact SV1.mono (a:=.node as) h k
 | arr sz as=>exact SV1.mono (a:=.arr sz as) h k
 | sl sz xs=>exact SV1.mono (a:=.sl sz xs) h k
 | ptr l g off=>exact SV1.mono (a:=.ptr l g off) h k
 | row l sz g off n=>exact SV1.mono (a:=.row l sz g off n) h k
 | vrow l g off sz n cap=>exact SV1.mono (a:=.vrow l g off sz n cap) h k
 | iptr y=>exact SV1.mono (a:=.iptr y) h k
 | rptr l sz g i off=>exact SV1.mono (a:=.rptr l sz g i off) h k
 | oref l g mp=>exact SV1.mono (a:=.oref l g mp) h k
def AV.solid : AV → Bool
 | .top | .tup _=>false
 | _=>true
theorem SV.cells {C:Ctx} {a:AV} {x:Value} (h:SV C a x) (hs:a.solid = true) : V C a x.cells.toList := by
 have one:∀ y:Value,y.oneCell' = true → y.cells.toList = [y]:=by
  intro y hy; cases y <;> simp_all [Value.oneCell',Value.cells]
 have key:V C a [x] → V C a x.cells.toList:=fun k=>by rw [one x (JHV _ _ k x (by simp))]; exact k
 cases a with
 | top=>simp [AV.solid] at hs
 | tup as=>simp [AV.solid] at hs
 | node as=>obtain ⟨cs,rfl,h1⟩:=h; exact h1
 | arr sz as=>obtain ⟨cs,rfl,h1⟩:=h; exact h1
 | v y=>exact key h
 | sl sz xs=>exact key h
 | ptr l g off=>exact key h
 | row l sz g off n=>exact key h
 | vrow l g off sz n cap=>exact key h
 | iptr y=>exact key h
 | rptr l sz g i off=>exact key h
 | oref l g mp=>exact key h
theorem SV.oneOf {C:Ctx} {a:AV} {x:Value} (h:SV C a x) (hs:a.solid = true) (hn:a.isAgg = false) : V C a [x] := by
 cases a with
 | top=>simp [AV.solid] at hs
 | tup as=>simp [AV.solid] at hs
 | node as=>simp [AV.isAgg] at hn
 | arr sz as=>simp [AV.isAgg] at hn
 | v y=>exact h
 | sl sz xs=>exact h
 | ptr l g off=>exact h
 | row l sz g off n=>exact h
 | vrow l g off sz n cap=>exact h
 | iptr y=>exact h
 | rptr l sz g i off=>exact h
 | oref l g mp=>exact h
theorem JYW {C:Ctx} {a:AV} {cs:Array Value} (h:V C a cs.toList) (ha:a.isAgg = true) : SV C a (.agg cs) := by
 cases a <;> simp [AV.isAgg] at ha <;> exact ⟨cs,rfl,h⟩
theorem JYZ {C:Ctx} {a:AV} {x:Value} (h:V C a [x]) (ha:a.isAgg = false) : SV C a x := by
 cases a <;> simp [AV.isAgg] at ha <;> first | exact h | exact trivial | (simp [V] at h)
mutual
def sub (agg:Bool) (sz:Nat) : AV → Nat → Option AV
 | .node cs,off=>if off = 0 ∧ AV.sizes cs = sz ∧ agg = true then some (.node cs) else subs agg sz cs off
 | .arr e xs,off=>if off = 0 ∧ e * xs.length = sz ∧ agg = true then some (.arr e xs) else
  match e with
  | 0=>none
  | e + 1=>if off % (e + 1) = 0 ∧ sz = e + 1 then (match xs[off / (e + 1)]? with | some x=>if x.isAgg = agg ∧ x.size = sz then some x else none | none=>none) else none
 | .tup _,_=>none
 | a,off=>if off = 0 ∧ sz = 1 ∧ agg = false then some a else none
def subs (agg:Bool) (sz:Nat) : List AV → Nat → Option AV
 | [],_=>none
 | c :: cs,off=>if off < c.size then sub agg sz c off else subs agg sz cs (off - c.size)
end
theorem JjI {C:Ctx} {agg:Bool} {sz:Nat} {a r:AV} {off:Nat} {cs:List Value} (ha:a.isAgg = false) (h1:a.size = 1)
 (h:(if off = 0 ∧ sz = 1 ∧ agg = false then some a else none) = some r) (k:V C a cs) :
 V C r ((cs.drop off).take sz) ∧ off + sz ≤ cs.length ∧ r.isAgg = agg ∧ ((cs.drop off).take sz).length = sz:=by
 split at h
 ·rename_i hc
  obtain ⟨rfl,rfl,rfl⟩:=hc
  obtain rfl:=Option.some.inj h
  have hl:=Jbn _ _ k
  rw [List.drop_zero,List.take_of_length_le (by omega)]
  exact ⟨k,by omega,ha,by omega⟩
 ·cases h
mutual
theorem JSc {C:Ctx} {agg:Bool} {sz:Nat} : ∀ (a:AV) (off:Nat) (r:AV) (cs:List Value),sub agg sz a off = some r → V C a cs →
 V C r ((cs.drop off).take sz) ∧ off + sz ≤ cs.length ∧ r.isAgg = agg ∧ ((cs.drop off).take sz).length = sz
 | .node as,off,r,cs,h,k=>by
   simp only [sub] at h
   split at h
   ·rename_i hc
    obtain ⟨rfl,h2,rfl⟩:=hc
    obtain rfl:=Option.some.inj h
    have hl:=Jbn _ _ k
    simp only [AV.size] at hl
    rw [List.drop_zero,List.take_of_length_le (by omega)]
    exact ⟨k,by omega,rfl,by omega⟩
   ·simp only [V] at k
    exact JYw as off r cs h k
 | .arr e xs,off,r,cs,h,k=>by
   simp only [sub] at h
   split at h
   ·rename_i hc
    obtain ⟨rfl,h2,rfl⟩:=hc
    obtain rfl:=Option.some.inj h
    have hl:=Jbn _ _ k
    simp only [AV.size] at hl
    rw [List.drop_zero,List.take_of_length_le (by omega)]
    exact ⟨k,by omega,rfl,by omega⟩
   ·cases e with
    | zero=>cases h
    | succ e =>
      simp only at h
      split at h
      ·rename_i hc
       obtain ⟨h1,rfl⟩:=hc
       split at h
       ·rename_i x hx
        split at h
        ·rename_i hc2
         obtain rfl:=Option.some.inj h
         simp only [V] at k
         have hg:=JP4 k hx
         have e1:off / (e + 1) * (e + 1) = off:=by have:=Nat.div_add_mod off (e + 1); rw [h1] at this; rw [Nat.mul_comm]; omega
         rw [e1] at hg
         refine ⟨hg.1,?_,hc2.1,hg.2⟩
         have:=hg.2
         simp only [List.length_take,List.length_drop] at this
         omega
        ·cases h
       ·cases h
      ·cases h
 | .tup _,_,_,_,h,_=>by simp [sub] at h
 | .top,off,r,cs,h,k=>JjI rfl rfl (by simpa only [sub] using h) k
 | .v x,off,r,cs,h,k=>JjI rfl rfl (by simpa only [sub] using h) k
 | .sl s xs,off,r,cs,h,k=>JjI rfl rfl (by simpa only [sub] using h) k
 | .ptr l g o,off,r,cs,h,k=>JjI rfl rfl (by simpa only [sub] using h) k
 | .row l s g o n,off,r,cs,h,k=>JjI rfl rfl (by simpa only [sub] using h) k
 | .vrow l g o s n c,off,r,cs,h,k=>JjI rfl rfl (by simpa only [sub] using h) k
 | .iptr x,off,r,cs,h,k=>JjI rfl rfl (by simpa only [sub] using h) k
 | .rptr l s g i o,off,r,cs,h,k=>JjI rfl rfl (by simpa only [sub] using h) k
 | .oref l g mp,off,r,cs,h,k=>JjI rfl rfl (by simpa only [sub] using h) k
theorem JYw {C:Ctx} {agg:Bool} {sz:Nat} : ∀ (as:List AV) (off:Nat) (r:AV) (cs:List Value),subs agg sz as off = some r → Vs C as cs →
 V C r ((cs.drop off).take sz) ∧ off + sz ≤ cs.length ∧ r.isAgg = agg ∧ ((cs.drop off).take sz).length = sz
 | [],_,_,_,h,_=>by simp [subs] at h
 | a :: as,off,r,cs,h,k=>by
   simp only [subs] at h
   simp only [Vs] at k
   obtain ⟨c1,c2,rfl,h1,h2⟩:=k
   have hl:=Jbn _ _ h1
   split at h
   ·obtain ⟨k1,k2,k3,k4⟩:=JSc a off r c1 h h1
    have e:((c1 ++ c2).drop off).take sz = (c1.drop off).take sz:=by
     rw [List.drop_append,List.take_append]
     have:sz - (c1.drop off).length = 0:=by rw [List.length_drop]; omega
     rw [this,List.take_zero,List.append_nil]
    rw [e]
    exact ⟨k1,by rw [List.length_append]; omega,k3,k4⟩
   ·obtain ⟨k1,k2,k3,k4⟩:=JYw as (off - a.size) r c2 h h2
    have e:(c1 ++ c2).drop off = c2.drop (off - a.size):=by
     rw [List.drop_append,List.drop_of_length_le (l:=c1) (by omega),List.nil_append,hl]
    rw [e]
    exact ⟨k1,by rw [List.length_append]; omega,k3,k4⟩
end
mutual
def putAt (agg:Bool) (sz:Nat) (new:AV) : AV → Nat → Option AV
 | .node cs,off=>if off = 0 ∧ AV.sizes cs = sz ∧ agg = true then some new else (putsAt agg sz new cs off).map AV.node
 | .arr e xs,off=>if off = 0 ∧ e * xs.length = sz ∧ agg = true then some new else
  match e with
  | 0=>none
  | e + 1=>if off % (e + 1) = 0 ∧ sz = e + 1 ∧ off / (e + 1) < xs.length then some (.arr (e + 1) (xs.set (off / (e + 1)) new)) else none
 | .tup _,_=>none
 | _,off=>if off = 0 ∧ sz = 1 ∧ agg = false then some new else none
def putsAt (agg:Bool) (sz:Nat) (new:AV) : List AV → Nat → Option (List AV)
 | [],_=>none
 | c :: cs,off=>if off < c.size then (putAt agg sz new c off).map (· :: cs) else (putsAt agg sz new cs (off - c.size)).map (c :: ·)
end
theorem JjM {C:Ctx} {agg:Bool} {sz:Nat} {a r new:AV} {off:Nat} {cs d:List Value} (h1:a.size = 1)
 (h:(if off = 0 ∧ sz = 1 ∧ agg = false then some new else none) = some r) (k:V C a cs) (hd:V C new d) (hdl:d.length = sz) :
 V C r (cs.take off ++ d ++ cs.drop (off + sz)) ∧ off + sz ≤ cs.length:=by
 split at h
 ·rename_i hc
  obtain ⟨rfl,rfl,rfl⟩:=hc
  obtain rfl:=Option.some.inj h
  have hl:=Jbn _ _ k
  rw [List.take_zero,List.nil_append,List.drop_of_length_le (by omega),List.append_nil]
  exact ⟨hd,by omega⟩
 ·cases h
theorem JSK {C:Ctx} {sz:Nat} {new:AV} {cs d:List Value} (hd:V C new d) (hl:cs.length = sz) :
 V C new (cs.take 0 ++ d ++ cs.drop (0 + sz)) ∧ 0 + sz ≤ cs.length:=by
 rw [List.take_zero,List.nil_append,List.drop_of_length_le (by omega),List.append_nil]
 exact ⟨hd,by omega⟩
mutual
theorem JY1 {C:Ctx} {agg:Bool} {sz:Nat} {new:AV} {d:List Value} (hd:V C new d) (hdl:d.length = sz) : ∀ (a:AV) (off:Nat) (r:AV) (cs:List Value),
 putAt agg sz new a off = some r → V C a cs → V C r (cs.take off ++ d ++ cs.drop (off + sz)) ∧ off + sz ≤ cs.length
 | .node as,off,r,cs,h,k=>by
   simp only [putAt] at h
   split at h
   ·rename_i hc
    obtain ⟨rfl,h2,rfl⟩:=hc
    obtain rfl:=Option.some.inj h
    have hl:=Jbn _ _ k
    simp only [AV.size] at hl
    exact JSK hd (by omega)
   ·simp only [Option.map_eq_some_iff] at h
    obtain ⟨as',h1,rfl⟩:=h
    simp only [V] at k ⊢
    exact JZh hd hdl as off as' cs h1 k
 | .arr e xs,off,r,cs,h,k=>by
   simp only [putAt] at h
   split at h
   ·rename_i hc
    obtain ⟨rfl,h2,rfl⟩:=hc
    obtain rfl:=Option.some.inj h
    have hl:=Jbn _ _ k
    simp only [AV.size] at hl
    exact JSK hd (by omega)
   ·cases e with
    | zero=>cases h
    | succ e =>
      simp only at h
      split at h
      ·rename_i hc
       obtain ⟨h1,rfl,h3⟩:=hc
       obtain rfl:=Option.some.inj h
       simp only [V] at k ⊢
       have e1:off / (e + 1) * (e + 1) = off:=by have:=Nat.div_add_mod off (e + 1); rw [h1] at this; rw [Nat.mul_comm]; omega
       have hs:=JZe k h3 hdl hd
       rw [e1] at hs
       refine ⟨hs,?_⟩
       have hl:=Jw k
       have:(off / (e + 1) + 1) * (e + 1) ≤ xs.length * (e + 1):=Nat.mul_le_mul_right _ h3
       rw [Nat.add_mul,e1,Nat.one_mul] at this
       omega
      ·cases h
 | .tup _,_,_,_,h,_=>by simp [putAt] at h
 | .top,off,r,cs,h,k=>JjM rfl (by simpa only [putAt] using h) k hd hdl
 | .v x,off,r,cs,h,k=>JjM rfl (by simpa only [putAt] using h) k hd hdl
 | .sl s xs,off,r,cs,h,k=>JjM rfl (by simpa only [putAt] using h) k hd hdl
 | .ptr l g o,off,r,cs,h,k=>JjM rfl (by simpa only [putAt] using h) k hd hdl
 | .row l s g o n,off,r,cs,h,k=>JjM rfl (by simpa only [putAt] using h) k hd hdl
 | .vrow l g o s n c,off,r,cs,h,k=>JjM rfl (by simpa only [putAt] using h) k hd hdl
 | .iptr x,off,r,cs,h,k=>JjM rfl (by simpa only [putAt] using h) k hd hdl
 | .rptr l s g i o,off,r,cs,h,k=>JjM rfl (by simpa only [putAt] using h) k hd hdl
 | .oref l g mp,off,r,cs,h,k=>JjM rfl (by simpa only [putAt] using h) k hd hdl
theorem JZh {C:Ctx} {agg:Bool} {sz:Nat} {new:AV} {d:List Value} (hd:V C new d) (hdl:d.length = sz) : ∀ (as:List AV) (off:Nat) (r:List AV) (cs:List Value),
 putsAt agg sz new as off = some r → Vs C as cs → Vs C r (cs.take off ++ d ++ cs.drop (off + sz)) ∧ off + sz ≤ cs.length
 | [],_,_,_,h,_=>by simp [putsAt] at h
 | a :: as,off,r,cs,h,k=>by
   simp only [putsAt] at h
   simp only [Vs] at k
   obtain ⟨c1,c2,rfl,h1,h2⟩:=k
   have hl:=Jbn _ _ h1
   split at h
   ·simp only [Option.map_eq_some_iff] at h
    obtain ⟨a',h3,rfl⟩:=h
    obtain ⟨k1,k2⟩:=JY1 hd hdl a off a' c1 h3 h1
    refine ⟨?_,by rw [List.length_append]; omega⟩
    simp only [Vs]
    refine ⟨_,c2,?_,k1,h2⟩
    have e:off - c1.length = 0:=by omega
    have e2:off + sz - c1.length = 0:=by omega
    rw [List.take_append,List.drop_append,e,e2]
    simp [List.append_assoc]
   ·simp only [Option.map_eq_some_iff] at h
    obtain ⟨as',h3,rfl⟩:=h
    obtain ⟨k1,k2⟩:=JZh hd hdl as (off - a.size) as' c2 h3 h2
    refine ⟨?_,by rw [List.length_append]; omega⟩
    simp only [Vs]
    refine ⟨c1,_,?_,h1,k1⟩
    have e:off + sz - c1.length = off - a.size + sz:=by omega
    rw [List.take_append,List.drop_append,List.take_of_length_le (l:=c1) (by omega),List.drop_of_length_le (l:=c1) (by omega),e,hl]
    simp [List.append_assoc]
end
end
section
open Go
def tagg (P:Program) (t:TypeId) : Option Bool := (P.underlying t).map fun d => match d with | .struct _ | .array _ _ => true | _ => false
def tsz (P:Program) (t:TypeId) : Option Nat := (P.info? t).map (·.size)
theorem JbM (b o n:Nat) : (⟨b,o,none⟩:Addr).add n = ⟨b,o + n,none⟩ := by unfold Addr.add; split <;> simp_all
theorem JP {P:Program} {t:TypeId} {sz:Nat} (h:tsz P t = some sz) (w:World) : (sizeOf t).run P w = .ok sz w := by
 unfold tsz at h
 cases hq:P.info? t with
 | none=>simp [hq] at h
 | some i =>
   have:i.size = sz:=by simpa [hq] using h
   simp [sizeOf,typeInfo,hq,this]
theorem Jgp {P:Program} {t:TypeId} {agg:Bool} (h:tagg P t = some agg) (w:World) : (isAgg t).run P w = .ok agg w := by
 unfold tagg at h
 cases hq:P.underlying t with
 | none=>simp [hq] at h
 | some d =>
   rw [hq] at h
   unfold isAgg
   rw [Sem.run_bind,run_underlying hq w]
   cases d <;> simp_all
theorem JOY {P:Program} {w:World} {t:TypeId} {agg:Bool} {sz b o:Nat} {cs:List Value} (ha:tagg P t = some agg) (hs:tsz P t = some sz) (hl:cs.length = sz) (h1:agg = false → sz = 1)
 (hc:CellsAt w b o cs):(loadVar t ⟨b,o,none⟩).run P w = .ok (valOf agg cs) w:=by
 have hc':∀ j v,cs[j]? = some v → w.cell? ((⟨b,o,none⟩:Addr).add j) = some v:=fun j v hv=>by rw [JbM]; exact hc j v hv
 have hr:=run_loadCells_list (P:=P) w ⟨b,o,none⟩ cs hc'
 cases agg with
 | true=>simp [loadVar,Jgp ha,JP hs,← hl,hr,valOf]
 | false =>
   have h2:=h1 rfl
   match cs,hl with
   | [],hl=>simp at hl; omega
   | [c],_ =>
     have hcell:w.cell? ⟨b,o,none⟩ = some c:=by simpa using hc 0 c rfl
     simp [loadVar,Jgp ha,valOf,run_load,hcell]
   | _ :: _ :: _,hl=>simp at hl; omega
theorem JAk {C:Ctx} {r:AV} {cs:List Value} {agg:Bool} (h:V C r cs) (ha:r.isAgg = agg) (h1:agg = false → cs.length = 1) : SV C r (valOf agg cs) := by
 cases agg with
 | true=>exact JYW (by simpa using h) ha
 | false =>
   match cs,h1 rfl with
   | [c],_=>exact JYZ (by simpa [valOf] using h) ha
theorem Jby {w:World} {b o n:Nat} {cur:Array Value} {T:TypeId} {fr:Nat × Nat} (h:w.heap[b]? = some (.cells cur T fr)) : CellsAt w b o ((cur.toList.drop o).take n) := by
 intro j u hu
 rw [cell_of_row w b (o + j) cur T fr h]
 rw [List.getElem?_take] at hu
 split at hu
 ·rw [List.getElem?_drop] at hu
  simpa using hu
 ·cases hu
theorem CellsAt.part {w:World} {b o:Nat} {cs:List Value} (h:CellsAt w b o cs) (off n:Nat) : CellsAt w b (o + off) ((cs.drop off).take n) := by
 intro j u hu
 rw [List.getElem?_take] at hu
 split at hu
 ·rw [List.getElem?_drop] at hu
  have:=h (off + j) u hu
  rwa [Nat.add_assoc]
 ·cases hu
def deref (m:Nat → Option Loc) : AV → Option (AV × Nat)
 | .ptr l g off=>match m l with
   | some (.var g' y)=>if g' = g then some (y,off) else none
   | _=>none
 | .iptr y=>some (y,0)
 | .rptr l sz g i off=>match m l with
   | some (.rows g' sz' xs)=>if g' = g ∧ sz' = sz then (xs[i]?).map (·,off) else none
   | _=>none
 | _=>none
theorem JWl {w0:World} {Ws I0:Nat → Prop} {C:Ctx} (hw:WR w0 Ws I0 C) {p:AV} {x:Value} {y:AV} {off:Nat} (hp:SV C p x) (h:deref C.m p = some (y,off)) :
 ∃ b base cs,V C y cs ∧ CellsAt C.w b base cs ∧ x = .pointer (some ⟨b,base + off,none⟩):=by
 cases p with
 | ptr l g o =>
   simp only [deref] at h
   split at h
   ·rename_i g' y' hm
    split at h
    ·rename_i e
     subst e
     simp only [Option.some.injEq,Prod.mk.injEq] at h
     obtain ⟨rfl,rfl⟩:=h
     obtain ⟨b,cur,T,h1,h2,h3⟩:=hw.locs l _ hm
     have hp':V C (.ptr l g' o) [x]:=hp
     simp only [V] at hp'
     obtain ⟨x',e,_,k⟩:=hp'
     obtain rfl:=(List.cons.inj e).1
     obtain ⟨b',e1,rfl⟩:=k _ hm
     rw [h1] at e1
     obtain rfl:=Option.some.inj e1
     have hc:=Jby (o:=0) (n:=cur.toList.length) h2
     rw [List.drop_zero,List.take_length] at hc
     exact ⟨b,0,cur.toList,h3,hc,by simp⟩
    ·cases h
   ·cases h
 | iptr y' =>
   simp only [deref,Option.some.injEq,Prod.mk.injEq] at h
   obtain ⟨rfl,rfl⟩:=h
   have hp':V C (.iptr y') [x]:=hp
   simp only [V] at hp'
   obtain ⟨b,o,body,e,_,h2,h3⟩:=hp'
   obtain rfl:=(List.cons.inj e).1
   exact ⟨b,o,body,h2,h3,rfl⟩
 | rptr l s0 g i o =>
   simp only [deref] at h
   split at h
   ·rename_i g' sz xs hm
    split at h
    ·rename_i e
     obtain ⟨rfl,rfl⟩:=e
     simp only [Option.map_eq_some_iff,Prod.mk.injEq] at h
     obtain ⟨y',hy,rfl,rfl⟩:=h
     have hp':V C (.rptr l sz g' i o) [x]:=hp
     simp only [V] at hp'
     obtain ⟨x',e,_,k⟩:=hp'
     obtain rfl:=(List.cons.inj e).1
     obtain ⟨b',e1,rfl⟩:=k _ hm
     rcases hw.locs l _ hm with ⟨h1,_⟩ | ⟨b,cur,T,cap,h1,h2,h3,h4,h5,h6⟩
     ·rw [e1] at h1; cases h1
     ·rw [h1] at e1
      obtain rfl:=Option.some.inj e1
      have hg:=JP4 h6 hy
      have hc:=(Jby (o:=0) (n:=xs.length * sz) h2).part (i * sz) sz
      rw [List.drop_zero] at hc
      exact ⟨b,0 + i * sz,_,hg.1,hc,by simp⟩
    ·cases h
   ·cases h
 | top=>simp [deref] at h
 | v y=>simp [deref] at h
 | node as=>simp [deref] at h
 | arr sz as=>simp [deref] at h
 | sl sz xs=>simp [deref] at h
 | row l sz g off n=>simp [deref] at h
 | vrow l g off sz n cap=>simp [deref] at h
 | oref l g mp=>simp [deref] at h
 | tup as=>simp [deref] at h
section
variable {P:Program} {w0:World} {Ws I0:Nat → Prop} {C:Ctx}
def loadA (m:Nat → Option Loc) (agg:Bool) (sz:Nat) (p:AV) : Option AV := (deref m p).bind fun q => sub agg sz q.1 q.2
theorem J1M (hw:WR w0 Ws I0 C) {p r:AV} {x:Value} {t:TypeId} {agg:Bool} {sz:Nat} (hp:SV C p x) (ha:tagg P t = some agg) (hs:tsz P t = some sz) (h1:agg = false → sz = 1)
 (h:loadA C.m agg sz p = some r):∃ y,(Instr.loadAt t x).run P C.w = .ok y C.w ∧ SV C r y:=by
 unfold loadA at h
 obtain ⟨⟨y,off⟩,h2,h3⟩:=Option.bind_eq_some_iff.1 h
 obtain ⟨b,base,cs,k1,k2,rfl⟩:=JWl hw hp h2
 obtain ⟨s1,s2,s3,s4⟩:=JSc y off r cs h3 k1
 have hr:=JOY (P:=P) ha hs s4 h1 (k2.part off sz)
 exact ⟨_,by simp [Instr.loadAt,Instr.sureAddr,hr],JAk s1 s3 (fun e=>by rw [s4]; exact h1 e)⟩
def AV.isRef : AV → Bool
 | .ptr .. | .iptr _ | .rptr ..=>true
 | _=>false
theorem JLT {p:AV} {x:Value} (hp:SV C p x) (h:p.isRef = true) : ∃ a,x = .pointer (some a) := by
 cases p <;> simp [AV.isRef] at h
 ·have hp':V C (.ptr _ _ _) [x]:=hp
  simp only [V] at hp'
  obtain ⟨a,e,_⟩:=hp'
  exact ⟨a,(List.cons.inj e).1⟩
 ·have hp':V C (.iptr _) [x]:=hp
  simp only [V] at hp'
  obtain ⟨b,o,body,e,_⟩:=hp'
  exact ⟨_,(List.cons.inj e).1⟩
 ·have hp':V C (.rptr _ _ _ _ _) [x]:=hp
  simp only [V] at hp'
  obtain ⟨a,e,_⟩:=hp'
  exact ⟨a,(List.cons.inj e).1⟩
def faddrA (fo sz:Nat) (agg:Bool) (p:AV) : Option AV :=
 match p with
 | .ptr l g off=>some (.ptr l g (off + fo))
 | .rptr l s g i off=>some (.rptr l s g i (off + fo))
 | .iptr y=>(sub agg sz y fo).map .iptr
 | _=>none
theorem JVR {p r:AV} {x:Value} {fo sz:Nat} {agg:Bool} (hp:SV C p x) (h:faddrA fo sz agg p = some r) :
 ∃ a,x = .pointer (some a) ∧ SV C r (.pointer (some (a.add fo))):=by
 unfold faddrA at h
 split at h
 ·rename_i l g off
  obtain rfl:=Option.some.inj h
  have hp':V C (.ptr l g off) [x]:=hp
  simp only [V] at hp'
  obtain ⟨a,e,hg,k⟩:=hp'
  refine ⟨a,(List.cons.inj e).1,?_⟩
  show V C (.ptr l g (off + fo)) [_]
  simp only [V]
  refine ⟨_,rfl,hg,fun y hc=>?_⟩
  obtain ⟨b',e1,rfl⟩:=k y hc
  exact ⟨b',e1,JbM _ _ _⟩
 ·rename_i l s g i off
  obtain rfl:=Option.some.inj h
  have hp':V C (.rptr l s g i off) [x]:=hp
  simp only [V] at hp'
  obtain ⟨a,e,hg,k⟩:=hp'
  refine ⟨a,(List.cons.inj e).1,?_⟩
  show V C (.rptr l s g i (off + fo)) [_]
  simp only [V]
  refine ⟨_,rfl,hg,fun xs hc=>?_⟩
  obtain ⟨b',e1,rfl⟩:=k xs hc
  exact ⟨b',e1,by rw [JbM,Nat.add_assoc]⟩
 ·rename_i y
  simp only [Option.map_eq_some_iff] at h
  obtain ⟨r',h1,rfl⟩:=h
  have hp':V C (.iptr y) [x]:=hp
  simp only [V] at hp'
  obtain ⟨b,o,body,e,hi,h2,h3⟩:=hp'
  obtain ⟨s1,s2,s3,s4⟩:=JSc y fo r' body h1 h2
  refine ⟨_,(List.cons.inj e).1,?_⟩
  rw [JbM]
  show V C (.iptr r') [_]
  simp only [V]
  exact ⟨b,o + fo,_,rfl,hi,s1,h3.part fo sz⟩
 ·cases h
theorem JZd {p r:AV} {x:Value} {s:TypeId} {fields:Array Field} {k:Nat} {f:Field} {sz:Nat} {agg:Bool} (hp:SV C p x) (hu:P.underlying s = some (.struct fields)) (hf:fields[k]? = some f)
 (hs:tsz P f.type = some sz) (hne:sz ≠ 0) (h:faddrA f.offset sz agg p = some r):∃ y,(Instr.fieldAt s x k).run P C.w = .ok y C.w ∧ SV C r y:=by
 obtain ⟨a,rfl,hr⟩:=JVR hp h
 exact ⟨_,by simp [Instr.fieldAt,run_underlying hu,hf,Instr.sureAddr,fieldPlace,JP hs,hne],hr⟩
theorem JUR {α:Type} (L d:List α) (n A s off sz:Nat) (hd:d.length = sz) (h1:off + sz ≤ s) (h2:A + s ≤ n) (h3:n ≤ L.length) :
 (L.take (A + off) ++ d ++ (L.drop (A + off + sz))).take n = (L.take n).take A ++ (((((L.take n).drop A).take s).take off ++ d) ++ (((L.take n).drop A).take s).drop (off + sz)) ++ (L.take n).drop (A + s):=by
 apply List.ext_getElem?
 intro j
 simp only [List.getElem?_append,List.getElem?_take,List.getElem?_drop,List.length_append,List.length_take,List.length_drop,hd]
 grind
theorem JK1 (w:World) (g k:Nat) (cs:Array Value) (h:k ≠ g) : (w.setRow g cs).heap[k]? = w.heap[k]? := by
 simp only [World.setRow,Array.getElem?_modify]
 rw [if_neg (by omega)]
theorem Jgo (w:World) (g:Nat) (cs:Array Value) : w.grownBy (w.setRow g cs) (some g) :=
 ⟨rfl,rfl,rfl,by simp,fun k _ hn=>JK1 w g k cs (fun e=>hn (by rw [e]))⟩
theorem JMY {w:World} {t:TypeId} {sz b o:Nat} {x:Value} {cur:Array Value} {T:TypeId} (hs:tsz P t = some sz) (hl:x.cells.toList.length = sz) (h1:∀ u ∈ x.cells.toList,u.oneCell' = true)
 (hg:w.heap[b]? = some (.cells cur T (0,0))) (hfit:o + sz ≤ cur.size) :
 (storeVar t ⟨b,o,none⟩ x).run P w = .ok () (w.setRow b (cur.toList.take o ++ x.cells.toList ++ cur.toList.drop (o + sz)).toArray):=by
 have hst:=run_storeCells_at P b o T x.cells.toList 0 cur w hg (by rw [hl]; simpa using hfit) h1
 rw [hl] at hst
 simp only [Nat.add_zero] at hst
 have hl':x.cells.size = sz:=by simpa using hl
 simp [storeVar,JP hs,hl',hst]
def storeA (m:Nat → Option Loc) (agg:Bool) (sz:Nat) (p v:AV) : Option (Nat × Loc) :=
 if v.solid = true ∧ v.size = sz ∧ v.isAgg = agg then
  match p with
  | .ptr l g off=>match m l with
    | some (.var g' y)=>if g' = g then (putAt agg sz v y off).map fun y'=>(l,.var g y') else none
    | _=>none
  | .rptr l s0 g i off=>match m l with
    | some (.rows g' s xs)=>if g' = g ∧ s = s0 then (xs[i]?).bind fun y=>(putAt agg sz v y off).map fun y'=>(l,.rows g s (xs.set i y')) else none
    | _=>none
  | _=>none
 else none
theorem JYH (hw:WR w0 Ws I0 C) {p v:AV} {x y:Value} {t:TypeId} {agg:Bool} {sz l:Nat} {c':Loc} (hp:SV C p x) (hv:SV C v y) (hs:tsz P t = some sz)
 (h:storeA C.m agg sz p v = some (l,c')) :
 ∃ w',(Instr.storeAt t x y).run P C.w = .ok () w' ∧ C.Le { C with w:=w',m:=upd C.m l (some c') } ∧ WR w0 Ws I0 { C with w:=w',m:=upd C.m l (some c') }:=by
 unfold storeA at h
 split at h
 ·rename_i hc
  obtain ⟨hso,hsz,_⟩:=hc
  have hvc:=hv.cells hso
  have hvl:y.cells.toList.length = sz:=by rw [Jbn _ _ hvc,hsz]
  have hv1:=JHV _ _ hvc
  cases p with
  | ptr l' g off =>
    simp only at h
    split at h
    ·rename_i g' z hm
     split at h
     ·rename_i e
      subst e
      simp only [Option.map_eq_some_iff,Prod.mk.injEq] at h
      obtain ⟨z',hz,rfl,rfl⟩:=h
      obtain ⟨b,cur,T,h1,h2,h3⟩:=hw.locs l' _ hm
      have hp':V C (.ptr l' g' off) [x]:=hp
      simp only [V] at hp'
      obtain ⟨x',e,_,k⟩:=hp'
      obtain rfl:=(List.cons.inj e).1
      obtain ⟨b',e1,rfl⟩:=k _ hm
      rw [h1] at e1
      obtain rfl:=Option.some.inj e1
      obtain ⟨k1,k2⟩:=JY1 hvc hvl z off z' _ hz h3
      have hr:=JMY (P:=P) hs hvl hv1 h2 (o:=off) (by simpa using k2)
      have hput:=hw.put hm h1 h2 (Jgo C.w b _) (setRow_heap C.w b cur (cur.toList.take off ++ y.cells.toList ++ cur.toList.drop (off + sz)).toArray T _ h2)
       (by simp only [Array.length_toList] at k2 hvl; simp; omega) (c':=.var g' z') (by simp [Loc.same])
      refine ⟨_,by simp [Instr.storeAt,Instr.sureAddr,hr],hput.1,hput.2 ⟨b,_,T,h1,setRow_heap C.w b cur _ T _ h2,?_⟩⟩
      have:=JtJ hput.1 _ _ k1
      simpa using this
     ·cases h
    ·cases h
  | rptr l' s0 g i off =>
    simp only at h
    split at h
    ·rename_i g' s xs hm
     split at h
     ·rename_i e
      obtain ⟨rfl,rfl⟩:=e
      simp only [Option.bind_eq_some_iff,Option.map_eq_some_iff,Prod.mk.injEq] at h
      obtain ⟨z,hz0,z',hz,rfl,rfl⟩:=h
      have hp':V C (.rptr l' s g' i off) [x]:=hp
      simp only [V] at hp'
      obtain ⟨x',e,_,k⟩:=hp'
      obtain rfl:=(List.cons.inj e).1
      obtain ⟨b',e1,rfl⟩:=k _ hm
      rcases hw.locs l' _ hm with ⟨h1,_⟩ | ⟨b,cur,T,cap,h1,h2,h3,h4,h5,h6⟩
      ·rw [e1] at h1; cases h1
      ·rw [h1] at e1
       obtain rfl:=Option.some.inj e1
       obtain ⟨hi,_⟩:=List.getElem?_eq_some_iff.1 hz0
       have hg:=JP4 h6 hz0
       obtain ⟨k1,k2⟩:=JY1 hvc hvl z off z' _ hz hg.1
       rw [hg.2] at k2
       have hlen:=Jw h6
       have hmul:(i + 1) * s ≤ xs.length * s:=Nat.mul_le_mul_right _ hi
       rw [Nat.succ_mul] at hmul
       have hcurl:xs.length * s ≤ cur.size:=by rw [h3]; exact Nat.mul_le_mul_right _ h5
       have hr:=JMY (P:=P) hs hvl hv1 h2 (o:=i * s + off) (by omega)
       have hput:=hw.put hm h1 h2 (Jgo C.w b _) (setRow_heap C.w b cur (cur.toList.take (i * s + off) ++ y.cells.toList ++ cur.toList.drop (i * s + off + sz)).toArray T _ h2)
        (by simp only [Array.length_toList] at hvl; simp; omega) (c':=.rows g' s (xs.set i z')) (by simp [Loc.same])
       refine ⟨_,by simp [Instr.storeAt,Instr.sureAddr,hr],hput.1,hput.2 (.inr ⟨b,_,T,cap,h1,setRow_heap C.w b cur _ T _ h2,?_,h4,by simpa using h5,?_⟩)⟩
       ·simp only [Array.length_toList] at hvl
        simp
        omega
       ·have hset:=JZe h6 hi (d:=(((cur.toList.take (xs.length * s)).drop (i * s)).take s).take off ++ y.cells.toList ++ (((cur.toList.take (xs.length * s)).drop (i * s)).take s).drop (off + sz)) (by simp only [List.length_append,List.length_take,List.length_drop,hvl,Array.length_toList]; omega) k1
        have:=Jj8 hput.1 _ _ _ hset
        rw [List.length_set]
        rw [← JUR cur.toList y.cells.toList (xs.length * s) (i * s) s off sz hvl k2 (by omega) (by simpa using hcurl)] at this
        exact this
     ·cases h
    ·cases h
  | _=>cases h
 ·cases h
end
end
section
open Go
section
variable {P:Program} {w0:World} {Ws I0:Nat → Prop} {C:Ctx}
theorem JlU {t:TypeId} {agg:Bool} {sz off:Nat} {cs:Array Value} {w:World} (ha:tagg P t = some agg) (hs:tsz P t = some sz) (h1:agg = false → sz = 1) (hfit:off + sz ≤ cs.size) :
 (part t cs off).run P w = .ok (valOf agg ((cs.toList.drop off).take sz)) w:=by
 cases agg with
 | true =>
   simp only [part,Sem.run_bind,Jgp ha,Result.andThen_ok,if_true,JP hs,Sem.run_pure,valOf]
   congr 2
   apply Array.ext'
   simp
 | false =>
   obtain rfl:=h1 rfl
   have hlt:off < cs.size:=by omega
   have e:(cs.toList.drop off).take 1 = [cs[off]]:=by
    rw [List.drop_eq_getElem_cons (by simpa using hlt)]; simp
   simp [part,Jgp ha,valOf,e,hlt]
theorem JNs {a:AV} {x:Value} (h:SV C a x) (ha:a.isAgg = true) : ∃ cs : Array Value,x = .agg cs ∧ V C a cs.toList := by
 cases a <;> simp [AV.isAgg] at ha <;> exact h
def fieldA (agg:Bool) (sz off:Nat) (a:AV) : Option AV := if a.isAgg = true then sub agg sz a off else none
theorem JZ1 {a r:AV} {x:Value} {s:TypeId} {fields:Array Field} {k:Nat} {f:Field} {sz:Nat} {agg:Bool} (hp:SV C a x) (hu:P.underlying s = some (.struct fields)) (hf:fields[k]? = some f)
 (ha:tagg P f.type = some agg) (hs:tsz P f.type = some sz) (h1:agg = false → sz = 1) (h:fieldA agg sz f.offset a = some r) :
 ∃ y,(Instr.field s x k).run P C.w = .ok y C.w ∧ SV C r y:=by
 unfold fieldA at h
 split at h
 ·rename_i hag
  obtain ⟨cs,rfl,hv⟩:=JNs hp hag
  obtain ⟨s1,s2,s3,s4⟩:=JSc a f.offset r _ h hv
  have hr:=JlU (P:=P) (w:=C.w) ha hs h1 (off:=f.offset) (cs:=cs) (by simpa using s2)
  exact ⟨_,by simp [Instr.field,run_underlying hu,hf,asAgg,hr],JAk s1 s3 (fun e=>by rw [s4]; exact h1 e)⟩
 ·cases h
def indexA (agg:Bool) (n sz:Nat) (a:AV) (i:Int) : Option AV :=
 match a with
 | .arr s xs=>if s = sz ∧ xs.length = n ∧ 0 ≤ i then (match xs[i.toNat]? with | some y=>if y.isAgg = agg then some y else none | none=>none) else none
 | _=>none
theorem JYU {a r:AV} {x:Value} {t e:TypeId} {n sz:Nat} {agg:Bool} {k:IntKind} {i:Int} (hp:SV C a x) (hu:P.underlying t = some (.array n e)) (ha:tagg P e = some agg) (hs:tsz P e = some sz)
 (h1:agg = false → sz = 1) (h:indexA agg n sz a i = some r):∃ y,(Instr.index t x (.int k i)).run P C.w = .ok y C.w ∧ SV C r y:=by
 unfold indexA at h
 split at h
 ·rename_i s xs
  split at h
  ·rename_i hc
   obtain ⟨rfl,hn,hi⟩:=hc
   split at h
   ·rename_i y hy
    split at h
    ·rename_i hag
     obtain rfl:=Option.some.inj h
     obtain ⟨cs,rfl,hv⟩:=hp
     simp only [V] at hv
     have hg:=JP4 hv hy
     obtain ⟨hlt,_⟩:=List.getElem?_eq_some_iff.1 hy
     have hfit:i.toNat * s + s ≤ cs.size:=by
      have:=hg.2; simp only [List.length_take,List.length_drop,Array.length_toList] at this; rcases Nat.eq_zero_or_pos s with h0 | h0
      ·have hl:=Jw hv; subst h0; omega
      ·omega
     have hr:=JlU (P:=P) (w:=C.w) ha hs h1 (off:=i.toNat * s) (cs:=cs) hfit
     have hin:0 ≤ i ∧ i < (n:Int):=⟨hi,by omega⟩
     refine ⟨_,by simp [Instr.index,asIntOf,run_underlying hu,hin,JP hs,hr],JAk hg.1 hag (fun e=>by rw [hg.2]; exact h1 e)⟩
    ·cases h
   ·cases h
  ·cases h
 ·cases h
def iaddrA (sz:Nat) (a:AV) (i:Int) : Option AV :=
 if 0 ≤ i then
  match a with
  | .sl s xs=>if s = sz then (xs[i.toNat]?).map .iptr else none
  | .row l s g off n=>if s = sz ∧ i < (n:Int) then some (.rptr l s g (off + i.toNat) 0) else none
  | .vrow l g off s n _=>if s = sz ∧ i < (n:Int) then some (.ptr l g (off + i.toNat * sz)) else none
  | _=>none
 else none
theorem JYm {a r:AV} {x:Value} {t e:TypeId} {sz:Nat} {k:IntKind} {i:Int} (hp:SV C a x) (hu:P.underlying t = some (.slice e)) (hs:tsz P e = some sz)
 (h:iaddrA sz a i = some r):∃ y,(Instr.indexAt t x (.int k i)).run P C.w = .ok y C.w ∧ SV C r y:=by
 have run:∀ (a:Addr) (len cap:Nat),i < (len:Int) → 0 ≤ i → (Instr.indexAt t (.slice (some a) len cap) (.int k i)).run P C.w = .ok (.pointer (some (a.add (i.toNat * sz)))) C.w:=by
  intro a len cap h1 h0
  have hin:0 ≤ i ∧ i < (len:Int):=⟨h0,h1⟩
  simp [Instr.indexAt,asIntOf,run_underlying hu,hin,JP hs]
 unfold iaddrA at h
 split at h
 ·rename_i h0
  split at h
  ·rename_i s xs
   split at h
   ·rename_i hs'
    subst hs'
    simp only [Option.map_eq_some_iff] at h
    obtain ⟨y,hy,rfl⟩:=h
    have hp':V C (.sl s xs) [x]:=hp
    simp only [V] at hp'
    obtain ⟨ao,cap,body,e1,h2,h3,h4,h5⟩:=hp'
    obtain rfl:=(List.cons.inj e1).1
    obtain ⟨hlt,_⟩:=List.getElem?_eq_some_iff.1 hy
    rcases h5 with rfl | ⟨b,o,rfl,hi,hc⟩
    ·simp at hlt
    ·refine ⟨_,run _ _ cap (by omega) h0,?_⟩
     rw [JbM]
     show V C (.iptr y) [_]
     simp only [V]
     have hg:=JP4 h4 hy
     exact ⟨b,o + i.toNat * s,_,rfl,hi,hg.1,hc.part _ _⟩
   ·cases h
  ·rename_i l s g off n
   split at h
   ·rename_i hc
    obtain ⟨rfl,hin⟩:=hc
    obtain rfl:=Option.some.inj h
    have hp':V C (.row l s g off n) [x]:=hp
    simp only [V] at hp'
    obtain ⟨ao,cap,e1,hn,_,hso,hg,k'⟩:=hp'
    obtain rfl:=(List.cons.inj e1).1
    obtain ⟨a,rfl⟩:=Option.isSome_iff_exists.1 (hso (by omega))
    refine ⟨_,run a _ _ hin h0,?_⟩
    show V C (.rptr l s g (off + i.toNat) 0) [_]
    simp only [V]
    refine ⟨_,rfl,hg,fun xs hm=>?_⟩
    have hrv:=k' _ hm
    unfold RowVal at hrv
    split at hrv
    ·rename_i hb; omega
    ·rename_i b hb
     obtain ⟨cur,T,cap',a',h1,h2,h3,h4,e5,h6⟩:=hrv
     simp only [Value.slice.injEq,Option.some.injEq] at e5
     obtain ⟨rfl,_,_⟩:=e5
     obtain rfl:=h6 (.inl (by omega))
     exact ⟨b,hb,by rw [JbM,Nat.add_mul,Nat.add_zero]⟩
   ·cases h
  ·rename_i l g off s n cap
   split at h
   ·rename_i hc
    obtain ⟨rfl,hin⟩:=hc
    obtain rfl:=Option.some.inj h
    have hp':V C (.vrow l g off s n cap) [x]:=hp
    simp only [V] at hp'
    obtain ⟨a,e1,hn,_,hg,k'⟩:=hp'
    obtain rfl:=(List.cons.inj e1).1
    refine ⟨_,run a _ _ hin h0,?_⟩
    show V C (.ptr l g (off + i.toNat * s)) [_]
    simp only [V]
    refine ⟨_,rfl,hg,fun y hc=>?_⟩
    obtain ⟨b,hb,ha⟩:=k' _ hc
    obtain rfl:=ha (by omega)
    exact ⟨b,hb,JbM _ _ _⟩
   ·cases h
  ·cases h
 ·cases h
def iaddrArr (N sz:Nat) (agg:Bool) (p:AV) (i:Int) : Option AV :=
 if 0 ≤ i ∧ i < (N:Int) then faddrA (i.toNat * sz) sz agg p else none
theorem JR6 {p r:AV} {x:Value} {t e:TypeId} {N sz:Nat} {agg:Bool} {k:IntKind} {i:Int} (hp:SV C p x) (hu:P.underlying t = some (.array N e)) (hs:tsz P e = some sz)
 (h:iaddrArr N sz agg p i = some r):∃ y,(Instr.indexAt t x (.int k i)).run P C.w = .ok y C.w ∧ SV C r y:=by
 unfold iaddrArr at h
 split at h
 ·rename_i hin
  obtain ⟨a,rfl,hr⟩:=JVR hp h
  exact ⟨_,by simp [Instr.indexAt,asIntOf,run_underlying hu,Instr.sureAddr,hin,JP hs],hr⟩
 ·cases h
def lenA (a:AV) : Option Nat :=
 match a with
 | .sl _ xs=>some xs.length
 | .row _ _ _ _ n=>some n
 | .vrow _ _ _ _ n _=>some n
 | .v (.slice none 0 0)=>some 0
 | _=>none
theorem JPT {a:AV} {x:Value} {n:Nat} (hp:SV C a x) (h:lenA a = some n) : ∃ o cap,x = .slice o n cap := by
 unfold lenA at h
 split at h
 ·rename_i s xs
  obtain rfl:=Option.some.inj h
  have hp':V C (.sl s xs) [x]:=hp
  simp only [V] at hp'
  obtain ⟨ao,cap,body,e1,_⟩:=hp'
  exact ⟨ao,cap,(List.cons.inj e1).1⟩
 ·rename_i l s g off n'
  obtain rfl:=Option.some.inj h
  have hp':V C (.row l s g off n') [x]:=hp
  simp only [V] at hp'
  obtain ⟨ao,cap,e1,_⟩:=hp'
  exact ⟨ao,cap,(List.cons.inj e1).1⟩
 ·rename_i l g off s n' cap
  obtain rfl:=Option.some.inj h
  have hp':V C (.vrow l g off s n' cap) [x]:=hp
  simp only [V] at hp'
  obtain ⟨a,e1,_⟩:=hp'
  exact ⟨some a,cap,(List.cons.inj e1).1⟩
 ·obtain rfl:=Option.some.inj h
  have hp':V C (.v (.slice none 0 0)) [x]:=hp
  simp only [V] at hp'
  obtain rfl:=(List.cons.inj hp'.1).1
  exact ⟨_,_,rfl⟩
 ·cases h
end
end
section
open Go
section
variable {P:Program} {w0:World} {Ws I0:Nat → Prop} {C:Ctx}
def bnd (len most:Nat) (lo hi:Option Int) : Option (Nat × Nat) :=
 let h:=hi.getD (len:Int)
 let l:=lo.getD 0
 if 0 ≤ l ∧ l ≤ h ∧ h ≤ (most:Int) then some (l.toNat,h.toNat) else none
theorem Jk3 {w:World} {isSl:Bool} {len cap most l h:Nat} {lo hi:Option Int} {k1 k2:IntKind} (hm:most ≤ cap) (hl:hi = none → len ≤ cap) (e:bnd len most lo hi = some (l,h)) :
 (Instr.sliceBounds isSl len cap (lo.map (Value.int k1)) (hi.map (Value.int k2)) none).run P w = .ok (l,h,cap) w ∧ l ≤ h ∧ h ≤ most:=by
 unfold bnd at e
 simp only at e
 split at e
 ·rename_i hc
  obtain ⟨h1,h2,h3⟩:=hc
  simp only [Option.some.injEq,Prod.mk.injEq] at e
  obtain ⟨rfl,rfl⟩:=e
  refine ⟨?_,by omega,by omega⟩
  cases lo with
  | none =>
    cases hi with
    | none=>simp [Instr.sliceBounds]
    | some h' =>
      simp only [Option.getD_some,Option.getD_none] at h2 h3 ⊢
      have hin:0 ≤ h' ∧ h' ≤ (cap:Int):=⟨h2,by omega⟩
      simp [Instr.sliceBounds,Instr.sliceBound,asIntOf,hin]
  | some l' =>
    cases hi with
    | none =>
      simp only [Option.getD_some,Option.getD_none] at h1 h2 h3 ⊢
      have hin:0 ≤ l' ∧ l' ≤ (len:Int):=⟨h1,h2⟩
      simp [Instr.sliceBounds,Instr.sliceBound,asIntOf,hin]
    | some h' =>
      simp only [Option.getD_some] at h1 h2 h3 ⊢
      have hin:0 ≤ h' ∧ h' ≤ (cap:Int):=⟨by omega,by omega⟩
      have hin2:0 ≤ l' ∧ l' ≤ h':=⟨h1,h2⟩
      have e2:(l' ≤ max h' 0) = True:=by simp; omega
      simp [Instr.sliceBounds,Instr.sliceBound,asIntOf,hin,h1,e2]
 ·cases e
def sliceA (sz:Nat) (a:AV) (lo hi:Option Int) : Option AV :=
 match a with
 | .sl s xs=>if s = sz then (bnd xs.length xs.length lo hi).map fun q=>.sl s ((xs.take q.2).drop q.1) else none
 | .row l s g off n=>if s = sz then (bnd n n lo hi).map fun q=>.row l s g (off + q.1) (q.2 - q.1) else none
 | .vrow l g off s n cap=>if s = sz then (bnd n n lo hi).map fun q=>.vrow l g (off + q.1 * sz) s (q.2 - q.1) (cap - q.1) else none
 | .v (.slice none 0 0)=>(bnd 0 0 lo hi).map fun _=>.v (.slice none 0 0)
 | _=>none
theorem JZ3 {a r:AV} {x:Value} {t e:TypeId} {sz:Nat} {lo hi:Option Int} {k1 k2:IntKind} (hp:SV C a x) (hu:P.underlying t = some (.slice e)) (hs:tsz P e = some sz)
 (h:sliceA sz a lo hi = some r):∃ y,(Instr.sliceAt t x (lo.map (Value.int k1)) (hi.map (Value.int k2)) none).run P C.w = .ok y C.w ∧ SV C r y:=by
 have run:∀ (ao:Option Addr) (len cap l h:Nat),len ≤ cap → bnd len len lo hi = some (l,h) →
  (Instr.sliceAt t (.slice ao len cap) (lo.map (Value.int k1)) (hi.map (Value.int k2)) none).run P C.w = .ok (.slice (if cap = l then ao else ao.map (·.add (l * sz))) (h - l) (cap - l)) C.w ∧ l ≤ h ∧ h ≤ len:=by
  intro ao len cap l h h1 h2
  obtain ⟨r1,r2,r3⟩:=Jk3 (P:=P) (w:=C.w) (isSl:=true) (k1:=k1) (k2:=k2) h1 (fun _=>h1) h2
  refine ⟨?_,r2,r3⟩
  simp [Instr.sliceAt,Instr.slice,run_underlying hu,r1,JP hs]
 unfold sliceA at h
 split at h
 ·rename_i s xs
  split at h
  ·rename_i hs'
   subst hs'
   simp only [Option.map_eq_some_iff] at h
   obtain ⟨⟨l,h'⟩,hb,rfl⟩:=h
   have hp':V C (.sl s xs) [x]:=hp
   simp only [V] at hp'
   obtain ⟨ao,cap,body,e1,h2,h3,h4,h5⟩:=hp'
   obtain rfl:=(List.cons.inj e1).1
   obtain ⟨r1,r2,r3⟩:=run ao xs.length cap l h' h2 hb
   refine ⟨_,r1,?_⟩
   show V C (.sl s ((xs.take h').drop l)) [_]
   simp only [V]
   have hlen:((xs.take h').drop l).length = h' - l:=by rw [List.length_drop,List.length_take]; omega
   refine ⟨_,cap - l,(body.take (h' * s)).drop (l * s),by rw [hlen],by omega,by omega,JN4 (JKY h4),?_⟩
   rcases h5 with rfl | ⟨b,o,rfl,hi',hc⟩
   ·simp
   ·by_cases hlt:l < h'
    ·refine .inr ⟨b,o + l * s,?_,hi',?_⟩
     ·rw [if_neg (by omega)]; simp [JbM]
     ·have:=hc.part (l * s) (h' * s - l * s)
      rwa [List.drop_take]
    ·left
     apply List.eq_nil_of_length_eq_zero
     omega
  ·cases h
 ·rename_i l s g off n
  split at h
  ·rename_i hs'
   subst hs'
   simp only [Option.map_eq_some_iff] at h
   obtain ⟨⟨lo',h'⟩,hb,rfl⟩:=h
   have hp':V C (.row l s g off n) [x]:=hp
   simp only [V] at hp'
   obtain ⟨ao,cap0,e1,hn,hmx,hso,hg,k'⟩:=hp'
   obtain rfl:=(List.cons.inj e1).1
   obtain ⟨r1,r2,r3⟩:=run ao n cap0 lo' h' hn hb
   refine ⟨_,r1,?_⟩
   show V C (.row l s g (off + lo') (h' - lo')) [_]
   simp only [V]
   refine ⟨_,_,rfl,by omega,by omega,fun hpos=>?_,hg,fun xs hm=>?_⟩
   ·rw [if_neg (by omega)]
    simpa using hso (by omega)
   have hrv:=k' _ hm
   unfold RowVal at hrv
   split at hrv
   ·rename_i hblk
    obtain ⟨rfl,rfl,a,e5⟩:=hrv
    simp only [Value.slice.injEq] at e5
    obtain ⟨rfl,_,rfl⟩:=e5
    unfold RowVal
    rw [hblk]
    obtain rfl:h' = 0:=by omega
    obtain rfl:lo' = 0:=by omega
    exact ⟨rfl,rfl,_,by simp; rfl⟩
   ·rename_i b hblk
    obtain ⟨cur,T,cap,a,h1,h2,h3,h4,e5,h6⟩:=hrv
    simp only [Value.slice.injEq] at e5
    obtain ⟨rfl,_,rfl⟩:=e5
    unfold RowVal
    rw [hblk]
    refine ⟨cur,T,cap,if cap - off = lo' then a else a.add (lo' * s),h1,h2,h3,by omega,?_,?_⟩
    ·rw [show cap - off - lo' = cap - (off + lo') by omega]
     split <;> simp
    ·intro hor
     rcases hor with hlt | h0
     ·rw [if_neg (by omega),h6 (.inl (by omega)),JbM,Nat.add_mul]
     ·obtain rfl:lo' = 0:=by omega
      obtain rfl:off = 0:=by omega
      rw [h6 (.inr rfl)]
      split <;> simp [JbM]
  ·cases h
 ·rename_i l g off s n cap
  split at h
  ·rename_i hs'
   subst hs'
   simp only [Option.map_eq_some_iff] at h
   obtain ⟨⟨lo',h'⟩,hb,rfl⟩:=h
   have hp':V C (.vrow l g off s n cap) [x]:=hp
   simp only [V] at hp'
   obtain ⟨a,e1,hn,hmx,hg,k'⟩:=hp'
   obtain rfl:=(List.cons.inj e1).1
   obtain ⟨r1,r2,r3⟩:=run (some a) n cap lo' h' hn hb
   refine ⟨_,r1,?_⟩
   show V C (.vrow l g (off + lo' * s) s (h' - lo') (cap - lo')) [_]
   simp only [V]
   refine ⟨if cap = lo' then a else a.add (lo' * s),by split <;> simp,by omega,by omega,hg,fun y' hm'=>?_⟩
   obtain ⟨b,hblk,ha⟩:=k' _ hm'
   refine ⟨b,hblk,fun hpos=>?_⟩
   rw [if_neg (by omega),ha (by omega),JbM]
  ·cases h
 ·simp only [Option.map_eq_some_iff] at h
  obtain ⟨⟨lo',h'⟩,hb,rfl⟩:=h
  have hp':V C (.v (.slice none 0 0)) [x]:=hp
  simp only [V] at hp'
  obtain rfl:=(List.cons.inj hp'.1).1
  obtain ⟨r1,r2,r3⟩:=run none 0 0 lo' h' (Nat.le_refl _) hb
  obtain rfl:h' = 0:=by omega
  obtain rfl:lo' = 0:=by omega
  refine ⟨_,r1,?_⟩
  show V C (.v (.slice none 0 0)) [_]
  simp [V,Value.oneCell']
 ·cases h
def sliceArr (N sz:Nat) (p:AV) (lo hi:Option Int) : Option AV :=
 match p with
 | .ptr l g off=>if N ≤ maxLen then (bnd N N lo hi).map fun q=>.vrow l g (off + q.1 * sz) sz (q.2 - q.1) (N - q.1) else none
 | .iptr (.arr s xs)=>if s = sz ∧ xs.length = N ∧ N ≤ maxLen then (bnd N N lo hi).map fun q=>.sl s ((xs.take q.2).drop q.1) else none
 | _=>none
theorem JTD {p r:AV} {x:Value} {t e:TypeId} {N sz:Nat} {lo hi:Option Int} {k1 k2:IntKind} (hp:SV C p x) (hu:P.underlying t = some (.array N e)) (hs:tsz P e = some sz)
 (h:sliceArr N sz p lo hi = some r):∃ y,(Instr.sliceAt t x (lo.map (Value.int k1)) (hi.map (Value.int k2)) none).run P C.w = .ok y C.w ∧ SV C r y:=by
 have run:∀ (a:Addr) (l h:Nat),bnd N N lo hi = some (l,h) →
  (Instr.sliceAt t (.pointer (some a)) (lo.map (Value.int k1)) (hi.map (Value.int k2)) none).run P C.w = .ok (.slice (some (if N = l then a else a.add (l * sz))) (h - l) (N - l)) C.w ∧ l ≤ h ∧ h ≤ N:=by
  intro a l h h2
  obtain ⟨r1,r2,r3⟩:=Jk3 (P:=P) (w:=C.w) (isSl:=false) (k1:=k1) (k2:=k2) (Nat.le_refl N) (fun _=>Nat.le_refl N) h2
  refine ⟨?_,r2,r3⟩
  simp [Instr.sliceAt,Instr.sureAddr,run_underlying hu,r1,JP hs]
 unfold sliceArr at h
 split at h
 ·rename_i l g off
  split at h
  ·rename_i hmx
   simp only [Option.map_eq_some_iff] at h
   obtain ⟨⟨l',h'⟩,hb,rfl⟩:=h
   have hp':V C (.ptr l g off) [x]:=hp
   simp only [V] at hp'
   obtain ⟨a,e,hg,k⟩:=hp'
   obtain rfl:=(List.cons.inj e).1
   obtain ⟨r1,r2,r3⟩:=run a l' h' hb
   refine ⟨_,r1,?_⟩
   show V C (.vrow l g (off + l' * sz) sz (h' - l') (N - l')) [_]
   simp only [V]
   refine ⟨_,rfl,by omega,by omega,hg,fun y hm=>?_⟩
   obtain ⟨b',e1,rfl⟩:=k _ hm
   refine ⟨b',e1,fun hpos=>?_⟩
   rw [if_neg (by omega),JbM]
  ·cases h
 ·rename_i s xs
  split at h
  ·rename_i hc
   obtain ⟨rfl,rfl,hmx⟩:=hc
   simp only [Option.map_eq_some_iff] at h
   obtain ⟨⟨l',h'⟩,hb,rfl⟩:=h
   have hp':V C (.iptr (.arr s xs)) [x]:=hp
   simp only [V] at hp'
   obtain ⟨b,o,body,e,hi',h2,h3⟩:=hp'
   obtain rfl:=(List.cons.inj e).1
   obtain ⟨r1,r2,r3⟩:=run ⟨b,o,none⟩ l' h' hb
   refine ⟨_,r1,?_⟩
   show V C (.sl s ((xs.take h').drop l')) [_]
   simp only [V]
   have hlen:((xs.take h').drop l').length = h' - l':=by rw [List.length_drop,List.length_take]; omega
   refine ⟨_,xs.length - l',(body.take (h' * s)).drop (l' * s),by rw [hlen],by omega,by omega,JN4 (JKY h2),?_⟩
   by_cases hlt:l' < h'
   ·refine .inr ⟨b,o + l' * s,?_,hi',?_⟩
    ·rw [if_neg (by omega),JbM]
    ·have:=h3.part (l' * s) (h' * s - l' * s)
     rwa [List.drop_take]
   ·left
    apply List.eq_nil_of_length_eq_zero
    omega
  ·cases h
 ·cases h
theorem JTH {s:ByteArray} {x:Value} {t:TypeId} {lo hi:Option Int} {k1 k2:IntKind} {q:Nat × Nat} (hp:SV C (.v (.string s)) x) (hu:P.underlying t = some .string) (h:bnd s.size s.size lo hi = some q) :
 ∃ y,(Instr.sliceAt t x (lo.map (Value.int k1)) (hi.map (Value.int k2)) none).run P C.w = .ok y C.w ∧ SV C (.v (.string (s.extract q.1 q.2))) y:=by
 have hp':V C (.v (.string s)) [x]:=hp
 simp only [V] at hp'
 obtain rfl:=(List.cons.inj hp'.1).1
 obtain ⟨r1,r2,r3⟩:=Jk3 (P:=P) (w:=C.w) (isSl:=false) (k1:=k1) (k2:=k2) (Nat.le_refl s.size) (fun _=>Nat.le_refl _) h
 refine ⟨.string (s.extract q.1 q.2),?_,?_⟩
 ·simp [Instr.sliceAt,Instr.slice,run_underlying hu,r1]
 ·show V C (.v (.string (s.extract q.1 q.2))) [_]
  simp [V,Value.oneCell']
end
end
section
open Go
def bitsOp (op:BinOp) (k:IntKind) (a b:Int) : Int :=
 match op with
 | .and=>k.wrap ((BitVec.ofInt k.bits a &&& BitVec.ofInt k.bits b).toNat:Nat)
 | .or=>k.wrap ((BitVec.ofInt k.bits a ||| BitVec.ofInt k.bits b).toNat:Nat)
 | .xor=>k.wrap ((BitVec.ofInt k.bits a ^^^ BitVec.ofInt k.bits b).toNat:Nat)
 | _=>k.wrap ((BitVec.ofInt k.bits a &&& ~~~(BitVec.ofInt k.bits b)).toNat:Nat)
def binV (op:BinOp) (x y:Value) : Option Value :=
 match x,y with
 | .int k a,.int k' b =>
   match op with
   | .shl=>if 0 ≤ b then some (.int k (k.wrap (a * 2 ^ min b.toNat k.bits))) else none
   | .shr=>if 0 ≤ b then some (.int k (a.fdiv (2 ^ min b.toNat k.bits))) else none
   | .add=>if k = k' then some (.int k (k.wrap (a + b))) else none
   | .sub=>if k = k' then some (.int k (k.wrap (a - b))) else none
   | .mul=>if k = k' then some (.int k (k.wrap (a * b))) else none
   | .quo=>if k = k' ∧ b ≠ 0 then some (.int k (k.wrap (a.tdiv b))) else none
   | .rem=>if k = k' ∧ b ≠ 0 then some (.int k (a.tmod b)) else none
   | .and=>if k = k' then some (.int k (bitsOp .and k a b)) else none
   | .or=>if k = k' then some (.int k (bitsOp .or k a b)) else none
   | .xor=>if k = k' then some (.int k (bitsOp .xor k a b)) else none
   | .andNot=>if k = k' then some (.int k (bitsOp .andNot k a b)) else none
   | .eql=>if k = k' then some (.bool (a == b)) else none
   | .neq=>if k = k' then some (.bool (a != b)) else none
   | .lss=>if k = k' then some (.bool (decide (a < b))) else none
   | .leq=>if k = k' then some (.bool (decide (a ≤ b))) else none
   | .gtr=>if k = k' then some (.bool (decide (a > b))) else none
   | .geq=>if k = k' then some (.bool (decide (a ≥ b))) else none
 | .string a,.string b =>
   match op with
   | .add=>if a.size + b.size ≤ 9223372036854775807 then some (.string (a ++ b)) else none
   | .eql=>some (.bool (a.toList == b.toList))
   | .neq=>some (.bool !(a.toList == b.toList))
   | .lss=>some (.bool (Op.bytesLess a.toList b.toList))
   | .leq=>some (.bool (Op.bytesLess a.toList b.toList || a.toList == b.toList))
   | .gtr=>some (.bool !(Op.bytesLess a.toList b.toList || a.toList == b.toList))
   | .geq=>some (.bool !(Op.bytesLess a.toList b.toList))
   | _=>none
 | _,_=>none
theorem JNQ {P:Program} {w:World} (op:BinOp) (t:TypeId) (xo yo:Operand) (k k':IntKind) (a b:Int) : (eqGuard op t xo yo (.int k a) (.int k' b)).run P w = .ok () w := by
 unfold eqGuard; cases op <;> simp
theorem JND {P:Program} {w:World} (op:BinOp) (t:TypeId) (xo yo:Operand) (a b:ByteArray) : (eqGuard op t xo yo (.string a) (.string b)).run P w = .ok () w := by
 unfold eqGuard; cases op <;> simp
theorem J4m : IntKind.i64.max = 9223372036854775807 := by decide
theorem J4Y {P:Program} {w:World} {op:BinOp} {t:TypeId} {xo yo:Operand} {x y r:Value} (h:binV op x y = some r) :
 (do eqGuard op t xo yo x y; binOp op t x y:Sem Value).run P w = .ok r w:=by
 unfold binV at h
 split at h
 ·rename_i k a k' b
  simp only [Sem.run_bind,JNQ,Result.andThen_ok]
  cases op <;> simp only at h <;> split at h <;> first
   | (cases h; done)
   | (rename_i hc
      obtain rfl:=Option.some.inj h
      first
       | (subst hc; simp [binOp,Op.intArith,Op.intBits,Op.intCmp,bitsOp]; done)
       | (obtain ⟨rfl,hb⟩:=hc; simp [binOp,Op.intDiv,hb]; done)
       | (have:¬ b < 0:=by omega
          simp [binOp,Op.shift,this]; done))
 ·rename_i a b
  simp only [Sem.run_bind,JND,Result.andThen_ok]
  cases op <;> simp only at h <;> first
   | (cases h; done)
   | (obtain rfl:=Option.some.inj h; simp [binOp,Op.stringOp]; done)
   | (split at h
      ·rename_i hc
       obtain rfl:=Option.some.inj h
       have:¬ (((a.size + b.size:Nat):Int) > IntKind.i64.max):=by rw [J4m]; omega
       simp only [binOp,Op.stringOp,if_neg this]; rfl
      ·cases h)
 ·cases h
def eqbV (neg:Bool) (x y:Value) : Option Value :=
 match x,y with
 | .bool a,.bool b=>some (.bool (if neg then !(a == b) else a == b))
 | _,_=>none
def eqOp (neg:Bool) : BinOp := if neg then .neq else .eql
theorem J3p {P:Program} {w:World} {neg:Bool} {t:TypeId} {xo yo:Operand} {x y r:Value} (hu:P.underlying t = some .bool) (h:eqbV neg x y = some r) :
 (do eqGuard (eqOp neg) t xo yo x y; binOp (eqOp neg) t x y:Sem Value).run P w = .ok r w:=by
 unfold eqbV at h
 split at h
 ·rename_i a b
  obtain rfl:=Option.some.inj h
  have e:(Op.equal t (.bool a) (.bool b)).run P w = .ok (a == b) w:=run_equalIn_bool w _ t a b hu
  cases neg <;> simp [eqOp,eqGuard,binOp,e]
 ·cases h
theorem JOz {P:Program} {w:World} {t e:TypeId} (d:Nat) (o:Option Addr) (hu:P.underlying t = some (.pointer e)) : (Op.equalIn (d + 1) t (.pointer o) (.pointer none)).run P w = .ok o.isNone w := by
 cases o <;> simp [Op.equalIn,run_underlying hu]
theorem JYQ {P:Program} {w:World} {neg:Bool} {t e:TypeId} {xo yo:Operand} (o:Option Addr) (hu:P.underlying t = some (.pointer e)) :
 (do eqGuard (eqOp neg) t xo yo (.pointer o) (.pointer none); binOp (eqOp neg) t (.pointer o) (.pointer none):Sem Value).run P w = .ok (.bool (if neg then o.isSome else o.isNone)) w:=by
 have e:(Op.equal t (.pointer o) (.pointer none)).run P w = .ok o.isNone w:=JOz _ o hu
 cases neg <;> cases o <;> simp [eqOp,eqGuard,binOp,e]
def intsOf (k:IntKind) : List AV → Option (List Int)
 | []=>some []
 | .v (.int k' n) :: r=>if k' = k then (intsOf k r).map (n :: ·) else none
 | _=>none
theorem Jbe {C:Ctx} {k:IntKind} : ∀ {xs:List AV} {ns:List Int} {cs:List Value},intsOf k xs = some ns → Es C 1 xs cs → cs = ns.map (Value.int k)
 | [],ns,cs,h,e=>by
   simp only [intsOf,Option.some.injEq] at h
   subst h
   simpa [Es] using e
 | x :: xs,ns,cs,h,e=>by
   cases x with
   | v y =>
     cases y with
     | int k' n =>
       simp only [intsOf] at h
       split at h
       ·rename_i hk
        subst hk
        simp only [Option.map_eq_some_iff] at h
        obtain ⟨ns',h1,rfl⟩:=h
        simp only [Es] at e
        obtain ⟨c1,c2,rfl,_,h2,h3⟩:=e
        simp only [V] at h2
        obtain ⟨rfl,_⟩:=h2
        rw [Jbe h1 h3]
        rfl
       ·cases h
     | _=>simp [intsOf] at h
   | _=>simp [intsOf] at h
theorem JP2 {P:Program} {w:World} {D:Nat} (hD:0 < D) {t e:TypeId} {k:IntKind} {as bs:List Int} (hu:P.underlying t = some (.array as.length e)) (he:P.underlying e = some (.int k)) (hs:tsz P e = some 1)
 (hl:bs.length = as.length):(Op.equalIn (D + 1) t (.agg (as.map (Value.int k)).toArray) (.agg (bs.map (Value.int k)).toArray)).run P w = .ok (as == bs) w:=by
 have ha:tagg P e = some false:=by simp [tagg,he]
 let body:Nat → Option Bool × Unit → Sem (ForInStep (Option Bool × Unit)):=fun i _=>do
  if (!(← Op.equalIn D e (← part e (as.map (Value.int k)).toArray (i * 1)) (← part e (bs.map (Value.int k)).toArray (i * 1)))) = true then pure (ForInStep.done (some false,()))
  else pure (ForInStep.yield (none,()))
 have step:∀ (s:Nat) (hsa:s < as.length) (hsb:s < bs.length) (st:Option Bool × Unit),
  (body s st).run P w = .ok (if as[s] == bs[s] then ForInStep.yield (none,()) else ForInStep.done (some false,())) w:=by
  intro s hsa hsb st
  have pa:=JlU (P:=P) (w:=w) ha hs (fun _=>rfl) (off:=s * 1) (cs:=(as.map (Value.int k)).toArray) (by simp; omega)
  have pb:=JlU (P:=P) (w:=w) ha hs (fun _=>rfl) (off:=s * 1) (cs:=(bs.map (Value.int k)).toArray) (by simp; omega)
  have ea:((as.map (Value.int k)).toArray.toList.drop (s * 1)).take 1 = [.int k as[s]]:=by rw [Nat.mul_one,List.drop_eq_getElem_cons (by simpa using hsa)]; simp
  have eb:((bs.map (Value.int k)).toArray.toList.drop (s * 1)).take 1 = [.int k bs[s]]:=by rw [Nat.mul_one,List.drop_eq_getElem_cons (by simpa using hsb)]; simp
  rw [ea] at pa
  rw [eb] at pb
  simp only [valOf,Bool.false_eq_true,if_false,List.headD_cons] at pa pb
  have hint:(Op.equalIn D e (.int k as[s]) (.int k bs[s])).run P w = .ok (as[s] == bs[s]) w:=by
   cases D with
   | zero=>omega
   | succ d=>exact run_equalIn_int w d e k k _ _ he
  simp only [body,Sem.run_bind,pa,pb,Result.andThen_ok,hint,Sem.run_ite,Sem.run_pure]
  cases (as[s] == bs[s]) <;> simp
 have key:∀ (n s:Nat) (st:Option Bool × Unit),s + n = as.length → st = (none,()) →
  (forIn (m:=Sem) (List.range' s n 1) st body).run P w = .ok (if as.drop s == bs.drop s then (none,()) else (some false,())) w:=by
  intro n
  induction n with
  | zero =>
    intro s st hs' hst
    have h1:as.drop s = []:=List.drop_of_length_le (by omega)
    have h2:bs.drop s = []:=List.drop_of_length_le (by omega)
    simp [h1,h2,hst]
  | succ n ih =>
    intro s st hs' hst
    have hsa:s < as.length:=by omega
    have hsb:s < bs.length:=by omega
    rw [List.drop_eq_getElem_cons hsa,List.drop_eq_getElem_cons hsb,List.range'_succ,List.forIn_cons,Sem.run_bind,step s hsa hsb st,Result.andThen_ok]
    have e1:(as[s] :: as.drop (s + 1) == bs[s] :: bs.drop (s + 1)) = ((as[s] == bs[s]) && (as.drop (s + 1) == bs.drop (s + 1))):=rfl
    rw [e1]
    cases hab:as[s] == bs[s] with
    | true =>
      simp only [if_true,Bool.true_and]
      exact ih (s + 1) (none,()) (by omega) rfl
    | false=>simp
 have h0:=key as.length 0 (none,()) (by omega) rfl
 simp only [List.drop_zero] at h0
 simp only [Op.equalIn,Sem.run_bind,run_underlying hu,Result.andThen_ok,JP hs,Std.Legacy.Range.forIn_eq_forIn_range',Std.Legacy.Range.size,Nat.sub_zero,Nat.add_sub_cancel,Nat.div_one]
 refine (congrArg (fun r=>Result.andThen r _) h0).trans ?_
 clear h0 key step
 cases as == bs <;> simp
inductive Sh where
 | int (k:IntKind)
 | str
 | bool
 | ints (k:IntKind) (n:Nat)
 | st (ss:List Sh)
mutual
def Sh.sz : Sh → Nat
 | .ints _ n=>n
 | .st ss=>Sh.szs ss
 | _=>1
def Sh.szs : List Sh → Nat
 | []=>0
 | s :: ss=>Sh.sz s + Sh.szs ss
end
mutual
def cmpA : Sh → AV → AV → Option Bool
 | .int k,x,y=>match x,y with
   | .v (.int k1 a),.v (.int k2 b)=>if k1 = k ∧ k2 = k then some (a == b) else none
   | _,_=>none
 | .str,x,y=>match x,y with
   | .v (.string a),.v (.string b)=>some (a.toList == b.toList)
   | _,_=>none
 | .bool,x,y=>match x,y with
   | .v (.bool a),.v (.bool b)=>some (a == b)
   | _,_=>none
 | .ints k n,x,y=>match x,y with
   | .arr 1 xs,.arr 1 ys=>(match intsOf k xs,intsOf k ys with
     | some a,some b=>if a.length = n ∧ b.length = n then some (a == b) else none
     | _,_=>none)
   | _,_=>none
 | .st ss,x,y=>match x,y with
   | .node xs,.node ys=>cmpL ss xs ys
   | _,_=>none
def cmpL : List Sh → List AV → List AV → Option Bool
 | [],[],[]=>some true
 | s :: ss,x :: xs,y :: ys=>(cmpA s x y).bind fun r=>(cmpL ss xs ys).map fun q=>r && q
 | _,_,_=>none
end
mutual
def Sh.dep : Sh → Nat
 | .ints _ _=>2
 | .st ss=>Sh.deps ss + 1
 | _=>1
def Sh.deps : List Sh → Nat
 | []=>0
 | s :: ss=>max (Sh.dep s) (Sh.deps ss)
end
def Sh.agg : Sh → Bool
 | .ints _ _ | .st _=>true
 | _=>false
def isIntK (P:Program) (t:TypeId) (k:IntKind) : Bool := match P.underlying t with | some (.int k') => decide (k' = k) | _ => false
mutual
def chkSh (P:Program) : Sh → TypeId → Bool
 | .int k,t=>isIntK P t k && tsz P t == some 1
 | .str,t=>(match P.underlying t with | some .string=>true | _=>false) && tsz P t == some 1
 | .bool,t=>(match P.underlying t with | some .bool=>true | _=>false) && tsz P t == some 1
 | .ints k n,t=>(match P.underlying t with | some (.array n' e)=>n' == n && isIntK P e k && tsz P e == some 1 | _=>false) && tsz P t == some n
 | .st ss,t=>(match P.underlying t with | some (.struct fs)=>!P.stoodInHeld t && chkShs P ss 0 fs.toList | _=>false) && tsz P t == some (Sh.szs ss)
def chkShs (P:Program) : List Sh → Nat → List Field → Bool
 | [],_,fs=>fs.isEmpty
 | s :: ss,off,fs=>match fs with
   | []=>false
   | f :: fs=>f.name != "_" && f.offset == off && decide (0 < Sh.sz s) && chkSh P s f.type && chkShs P ss (off + Sh.sz s) fs
end
theorem JoW {P:Program} {t:TypeId} {k:IntKind} (h:isIntK P t k = true) : P.underlying t = some (.int k) := by
 unfold isIntK at h
 split at h
 ·rename_i k' hk
  rw [hk,of_decide_eq_true h]
 ·cases h
theorem JGA {P:Program} {s:Sh} {t:TypeId} (h:chkSh P s t = true) : tsz P t = some (Sh.sz s) ∧ tagg P t = some s.agg := by
 cases s with
 | int k =>
   simp only [chkSh,Bool.and_eq_true,beq_iff_eq] at h
   exact ⟨h.2,by simp [tagg,JoW h.1,Sh.agg]⟩
 | str =>
   simp only [chkSh,Bool.and_eq_true,beq_iff_eq] at h
   obtain ⟨h1,h2⟩:=h
   split at h1
   ·rename_i hu; exact ⟨h2,by simp [tagg,hu,Sh.agg]⟩
   ·cases h1
 | bool =>
   simp only [chkSh,Bool.and_eq_true,beq_iff_eq] at h
   obtain ⟨h1,h2⟩:=h
   split at h1
   ·rename_i hu; exact ⟨h2,by simp [tagg,hu,Sh.agg]⟩
   ·cases h1
 | ints k n =>
   simp only [chkSh,Bool.and_eq_true,beq_iff_eq] at h
   obtain ⟨h1,h2⟩:=h
   split at h1
   ·rename_i hu; exact ⟨h2,by simp [tagg,hu,Sh.agg]⟩
   ·cases h1
 | st ss =>
   simp only [chkSh,Bool.and_eq_true,beq_iff_eq] at h
   obtain ⟨h1,h2⟩:=h
   split at h1
   ·rename_i hu; exact ⟨h2,by simp [tagg,hu,Sh.agg]⟩
   ·cases h1
theorem Sh.sz_one {s:Sh} (h:s.agg = false) : Sh.sz s = 1 := by cases s <;> simp [Sh.agg] at h <;> rfl
theorem V_one {C:Ctx} {x:Value} {cs:List Value} (h:V C (.v x) cs) : cs = [x] := by simp only [V] at h; exact h.1
theorem JK8 {k:IntKind} : ∀ {xs:List AV} {ns:List Int},intsOf k xs = some ns → ns.length = xs.length
 | [],ns,h=>by simp only [intsOf,Option.some.injEq] at h; subst h; rfl
 | x :: xs,ns,h=>by
   unfold intsOf at h
   split at h
   ·rename_i e; cases e
   ·rename_i e
    obtain ⟨rfl,rfl⟩:=List.cons.inj e
    split at h
    ·simp only [Option.map_eq_some_iff] at h
     obtain ⟨ms,hm,rfl⟩:=h
     simp [JK8 hm]
    ·cases h
   ·cases h
mutual
theorem Jum : ∀ {s:Sh} {x y:AV} {r:Bool},cmpA s x y = some r → x.size = Sh.sz s ∧ y.size = Sh.sz s
 | .int k,x,y,r,h=>by
   simp only [cmpA] at h
   split at h
   ·exact ⟨rfl,rfl⟩
   ·cases h
 | .str,x,y,r,h=>by
   simp only [cmpA] at h
   split at h
   ·exact ⟨rfl,rfl⟩
   ·cases h
 | .bool,x,y,r,h=>by
   simp only [cmpA] at h
   split at h
   ·exact ⟨rfl,rfl⟩
   ·cases h
 | .ints k n,x,y,r,h=>by
   simp only [cmpA] at h
   split at h
   ·split at h
    ·rename_i h1 h2
     split at h
     ·rename_i hl
      simp only [AV.size,Sh.sz,← JK8 h1,← JK8 h2]
      omega
     ·cases h
    ·cases h
   ·cases h
 | .st ss,x,y,r,h=>by
   simp only [cmpA] at h
   split at h
   ·simp only [AV.size,Sh.sz]
    exact JRG h
   ·cases h
theorem JRG : ∀ {ss:List Sh} {xs ys:List AV} {r:Bool},cmpL ss xs ys = some r → AV.sizes xs = Sh.szs ss ∧ AV.sizes ys = Sh.szs ss
 | [],xs,ys,r,h=>by
   unfold cmpL at h
   split at h
   ·exact ⟨rfl,rfl⟩
   ·rename_i e; cases e
   ·cases h
 | s :: ss,xs,ys,r,h=>by
   unfold cmpL at h
   split at h
   ·rename_i e; cases e
   ·rename_i s' ss' x xs y ys e
    obtain ⟨rfl,rfl⟩:=List.cons.inj e
    simp only [Option.bind_eq_some_iff,Option.map_eq_some_iff] at h
    obtain ⟨r1,hr1,r2,hr2,rfl⟩:=h
    have h1:=Jum hr1
    have h2:=JRG hr2
    simp only [AV.sizes,Sh.szs]
    omega
   ·cases h
end
mutual
theorem eqSh {P:Program} {C:Ctx} {w:World} : ∀ (s:Sh) (t:TypeId) (a b:AV) (cs ds:List Value) (r:Bool) (D:Nat),chkSh P s t = true → cmpA s a b = some r → V C a cs → V C b ds → Sh.dep s ≤ D →
 (Op.equalIn D t (valOf s.agg cs) (valOf s.agg ds)).run P w = .ok r w
 | .int k,t,a,b,cs,ds,r,D,hc,h,ha,hb,hD=>by
   obtain ⟨D,rfl⟩:∃ D',D = D' + 1:=⟨D - 1,by simp only [Sh.dep] at hD; omega⟩
   simp only [chkSh,Bool.and_eq_true,beq_iff_eq] at hc
   simp only [cmpA] at h
   split at h
   ·split at h
    ·obtain rfl:=V_one ha
     obtain rfl:=V_one hb
     rename_i hk
     obtain ⟨rfl,rfl⟩:=hk
     rw [← Option.some.inj h]
     exact run_equalIn_int w D t _ _ _ _ (JoW hc.1)
    ·cases h
   ·cases h
 | .str,t,a,b,cs,ds,r,D,hc,h,ha,hb,hD=>by
   obtain ⟨D,rfl⟩:∃ D',D = D' + 1:=⟨D - 1,by simp only [Sh.dep] at hD; omega⟩
   simp only [chkSh,Bool.and_eq_true,beq_iff_eq] at hc
   obtain ⟨hc,_⟩:=hc
   split at hc
   ·rename_i hu
    simp only [cmpA] at h
    split at h
    ·obtain rfl:=V_one ha
     obtain rfl:=V_one hb
     rw [← Option.some.inj h]
     exact run_equalIn_string w D t _ _ hu
    ·cases h
   ·cases hc
 | .bool,t,a,b,cs,ds,r,D,hc,h,ha,hb,hD=>by
   obtain ⟨D,rfl⟩:∃ D',D = D' + 1:=⟨D - 1,by simp only [Sh.dep] at hD; omega⟩
   simp only [chkSh,Bool.and_eq_true,beq_iff_eq] at hc
   obtain ⟨hc,_⟩:=hc
   split at hc
   ·rename_i hu
    simp only [cmpA] at h
    split at h
    ·obtain rfl:=V_one ha
     obtain rfl:=V_one hb
     rw [← Option.some.inj h]
     exact run_equalIn_bool' w D t _ _ hu
    ·cases h
   ·cases hc
 | .ints k n,t,a,b,cs,ds,r,D,hc,h,ha,hb,hD=>by
   obtain ⟨D,rfl⟩:∃ D',D = D' + 1:=⟨D - 1,by simp only [Sh.dep] at hD; omega⟩
   simp only [chkSh,Bool.and_eq_true,beq_iff_eq] at hc
   obtain ⟨hc,_⟩:=hc
   split at hc
   ·rename_i n' e hu
    simp only [Bool.and_eq_true,beq_iff_eq] at hc
    obtain ⟨⟨rfl,he⟩,hs⟩:=hc
    simp only [cmpA] at h
    split at h
    ·rename_i xs ys
     split at h
     ·rename_i as bs h1 h2
      split at h
      ·rename_i hl
       obtain ⟨rfl,hl2⟩:=hl
       simp only [V] at ha hb
       have e1:=Jbe h1 ha
       have e2:=Jbe h2 hb
       subst e1 e2
       rw [← Option.some.inj h]
       exact JP2 (by simp only [Sh.dep] at hD; omega) hu (JoW he) hs hl2
      ·cases h
     ·cases h
    ·cases h
   ·cases hc
 | .st ss,t,a,b,cs,ds,r,D,hc,h,ha,hb,hD=>by
   obtain ⟨D,rfl⟩:∃ D',D = D' + 1:=⟨D - 1,by simp only [Sh.dep] at hD; omega⟩
   simp only [Sh.dep] at hD
   simp only [chkSh,Bool.and_eq_true,beq_iff_eq] at hc
   obtain ⟨hc,_⟩:=hc
   split at hc
   ·rename_i fs hu
    simp only [Bool.and_eq_true,Bool.not_eq_true'] at hc
    obtain ⟨hst,hfs⟩:=hc
    simp only [cmpA] at h
    split at h
    ·rename_i xs ys
     simp only [V] at ha hb
     have hf:P.fieldsOf t = fs:=by simp [Program.fieldsOf,hu]
     have h1:=run_equalIn_struct w D t cs.toArray ds.toArray (by rw [hf]; exact hu) hst
     rw [hf] at h1
     show (Op.equalIn (D + 1) t (.agg cs.toArray) (.agg ds.toArray)).run P w = .ok r w
     rw [h1]
     exact eqShs ss 0 fs.toList xs ys cs.toArray ds.toArray r D hfs h ha hb (by omega)
    ·cases h
   ·cases hc
theorem eqShs {P:Program} {C:Ctx} {w:World} : ∀ (ss:List Sh) (off:Nat) (fs:List Field) (xs ys:List AV) (cs ds:Array Value) (r:Bool) (D:Nat),chkShs P ss off fs = true → cmpL ss xs ys = some r → Vs C xs (cs.toList.drop off) → Vs C ys (ds.toList.drop off) → Sh.deps ss ≤ D →
 (Op.eqFields D cs ds fs).run P w = .ok r w
 | [],off,fs,xs,ys,cs,ds,r,D,hc,h,ha,hb,hD=>by
   simp only [chkShs,List.isEmpty_iff] at hc
   subst hc
   unfold cmpL at h
   split at h
   ·rw [← Option.some.inj h]; rfl
   ·rename_i e; cases e
   ·cases h
 | s :: ss,off,fs,xs,ys,cs,ds,r,D,hc,h,ha,hb,hD=>by
   simp only [Sh.deps] at hD
   simp only [chkShs] at hc
   split at hc
   ·cases hc
   ·rename_i f fs
    simp only [Bool.and_eq_true,bne_iff_ne,beq_iff_eq,decide_eq_true_eq] at hc
    obtain ⟨⟨⟨⟨hn,ho⟩,hpos⟩,h1⟩,h2⟩:=hc
    unfold cmpL at h
    split at h
    ·rename_i e; cases e
    ·rename_i s' ss' x xs y ys e
     obtain ⟨rfl,rfl⟩:=List.cons.inj e
     simp only [Option.bind_eq_some_iff,Option.map_eq_some_iff] at h
     obtain ⟨r1,hr1,r2,hr2,rfl⟩:=h
     simp only [Vs] at ha hb
     obtain ⟨c1,c2,ec,hx,hxs⟩:=ha
     obtain ⟨d1,d2,ed,hy,hys⟩:=hb
     obtain ⟨hsz,hag⟩:=JGA h1
     have lx:=Jum hr1
     have lc:c1.length = Sh.sz s:=by rw [Jbn _ _ hx,lx.1]
     have ld:d1.length = Sh.sz s:=by rw [Jbn _ _ hy,lx.2]
     have fit:∀ (zs:Array Value) (z1 z2:List Value),zs.toList.drop off = z1 ++ z2 → z1.length = Sh.sz s → off + Sh.sz s ≤ zs.size ∧ (zs.toList.drop off).take (Sh.sz s) = z1 ∧ zs.toList.drop (off + Sh.sz s) = z2:=by
      intro zs z1 z2 e hl
      refine ⟨?_,by rw [e,← hl]; simp,by rw [← List.drop_drop,e,← hl]; simp⟩
      have:=congrArg List.length e
      simp only [List.length_drop,List.length_append,Array.length_toList] at this
      omega
     obtain ⟨f1,g1,k1⟩:=fit cs c1 c2 ec lc
     obtain ⟨f2,g2,k2⟩:=fit ds d1 d2 ed ld
     have p1:(part f.type cs f.offset).run P w = .ok (valOf s.agg c1) w:=by
      rw [ho]
      have:=JlU (P:=P) (w:=w) (off:=off) (cs:=cs) hag hsz (fun h=>Sh.sz_one h) f1
      rwa [g1] at this
     have p2:(part f.type ds f.offset).run P w = .ok (valOf s.agg d1) w:=by
      rw [ho]
      have:=JlU (P:=P) (w:=w) (off:=off) (cs:=ds) hag hsz (fun h=>Sh.sz_one h) f2
      rwa [g2] at this
     have q:=eqSh (w:=w) s f.type x y c1 d1 r1 D h1 hr1 hx hy (by omega)
     have qs:=eqShs (w:=w) ss (off + Sh.sz s) fs xs ys cs ds r2 D h2 hr2 (by rw [k1]; exact hxs) (by rw [k2]; exact hys) (by omega)
     simp only [Op.eqFields,hn,ne_eq,not_false_eq_true,if_true,Sem.run_bind,p1,p2,q,Result.andThen_ok,Sem.run_ite]
     cases r1 <;> simp [qs]
    ·cases h
end
end
section
open Go
mutual
def flat : AV → Option (List Value)
 | .v x=>if x.oneCell' = true then some [x] else none
 | .node cs=>flats cs
 | .arr sz xs=>flatE sz xs
 | _=>none
def flats : List AV → Option (List Value)
 | []=>some []
 | a :: as=>(flat a).bind fun c=>(flats as).map (c ++ ·)
def flatE (sz:Nat) : List AV → Option (List Value)
 | []=>some []
 | a :: as=>(flat a).bind fun c=>if c.length = sz then (flatE sz as).map (c ++ ·) else none
end
mutual
theorem JP1 {C:Ctx} : ∀ (a:AV) (cs:List Value),flat a = some cs → V C a cs
 | .v x,cs,h=>by
   simp only [flat] at h
   split at h
   ·rename_i h1; obtain rfl:=Option.some.inj h; simp [V,h1]
   ·cases h
 | .node as,cs,h=>by simp only [flat] at h; simp only [V]; exact JUN as cs h
 | .arr sz xs,cs,h=>by simp only [flat] at h; simp only [V]; exact JVH sz xs cs h
 | .top,_,h=>by simp [flat] at h
 | .sl ..,_,h=>by simp [flat] at h
 | .ptr ..,_,h=>by simp [flat] at h
 | .row ..,_,h=>by simp [flat] at h
 | .vrow ..,_,h=>by simp [flat] at h
 | .iptr ..,_,h=>by simp [flat] at h
 | .rptr ..,_,h=>by simp [flat] at h
 | .oref ..,_,h=>by simp [flat] at h
 | .tup ..,_,h=>by simp [flat] at h
theorem JUN {C:Ctx} : ∀ (as:List AV) (cs:List Value),flats as = some cs → Vs C as cs
 | [],cs,h=>by simp only [flats,Option.some.injEq] at h; simp [Vs,← h]
 | a :: as,cs,h=>by
   simp only [flats,Option.bind_eq_some_iff,Option.map_eq_some_iff] at h
   obtain ⟨c,h1,c2,h2,rfl⟩:=h
   simp only [Vs]
   exact ⟨c,c2,rfl,JP1 a c h1,JUN as c2 h2⟩
theorem JVH {C:Ctx} (sz:Nat) : ∀ (as:List AV) (cs:List Value),flatE sz as = some cs → Es C sz as cs
 | [],cs,h=>by simp only [flatE,Option.some.injEq] at h; simp [Es,← h]
 | a :: as,cs,h=>by
   simp only [flatE,Option.bind_eq_some_iff] at h
   obtain ⟨c,h1,h2⟩:=h
   split at h2
   ·rename_i hl
    simp only [Option.map_eq_some_iff] at h2
    obtain ⟨c2,h3,rfl⟩:=h2
    simp only [Es]
    exact ⟨c,c2,rfl,hl,JP1 a c h1,JVH sz as c2 h3⟩
   ·cases h2
end
section
variable {P:Program} {w0:World} {Ws I0:Nat → Prop} {C:Ctx}
def newAt (C:Ctx) (w':World) (l g:Nat) (B:Option Nat) (c':Loc) : Ctx := ⟨w',C.I,upd C.blk l B,upd C.m l (some c'),fun k=>C.used k ∨ k = g⟩
theorem WR.newVar (h:WR w0 Ws I0 C) {l g:Nat} {a:AV} {cs:Array Value} {T:TypeId} (hnew:¬ C.used g) (hv:V C a cs.toList) :
 C.Le (newAt C (C.w.alloc (.cells cs T)) l g (some C.w.heap.size) (.var g a)) ∧ WR w0 Ws I0 (newAt C (C.w.alloc (.cells cs T)) l g (some C.w.heap.size) (.var g a)) ∧
  SV (newAt C (C.w.alloc (.cells cs T)) l g (some C.w.heap.size) (.var g a)) (.ptr l g 0) (.pointer (some ⟨C.w.heap.size,0,none⟩)):=by
 have hr:=h.regen (l:=l) (g:=g) (c':=.var g a) (w':=C.w.alloc (.cells cs T)) (row:=none) (B:=some C.w.heap.size) (World.grownBy_alloc C.w _ none) rfl hnew (.inl rfl)
  (.inr (.inr ⟨_,rfl,Nat.le_refl _,by simp⟩))
 refine ⟨hr.1,hr.2 ⟨C.w.heap.size,cs,T,by simp,heap_alloc_new C.w _,JtJ hr.1 _ _ hv⟩,?_⟩
 show V _ (.ptr l g 0) [_]
 simp only [V]
 exact ⟨_,rfl,.inr rfl,fun _ _=>⟨C.w.heap.size,by simp [newAt],rfl⟩⟩
theorem WR.newRows (h:WR w0 Ws I0 C) {l g sz n:Nat} {xs:List AV} {cs:Array Value} {T:TypeId} (hnew:¬ C.used g) (hv:Es C sz xs cs.toList) (hn:xs.length = n) (hm:n ≤ maxLen) :
 C.Le (newAt C (C.w.alloc (.cells cs T)) l g (some C.w.heap.size) (.rows g sz xs)) ∧ WR w0 Ws I0 (newAt C (C.w.alloc (.cells cs T)) l g (some C.w.heap.size) (.rows g sz xs)) ∧
  SV (newAt C (C.w.alloc (.cells cs T)) l g (some C.w.heap.size) (.rows g sz xs)) (.row l sz g 0 n) (.slice (some ⟨C.w.heap.size,0,none⟩) n n):=by
 subst hn
 have hr:=h.regen (l:=l) (g:=g) (c':=.rows g sz xs) (w':=C.w.alloc (.cells cs T)) (row:=none) (B:=some C.w.heap.size) (World.grownBy_alloc C.w _ none) rfl hnew (.inl rfl)
  (.inr (.inr ⟨_,rfl,Nat.le_refl _,by simp⟩))
 have hl:=Jw hv
 simp only [Array.length_toList] at hl
 have hE:=Jj8 hr.1 _ _ _ hv
 refine ⟨hr.1,hr.2 (.inr ⟨C.w.heap.size,cs,T,xs.length,by simp,heap_alloc_new C.w _,hl,hm,Nat.le_refl _,?_⟩),?_⟩
 ·rw [List.take_of_length_le (by simp [hl])]; exact hE
 ·show V _ (.row l sz g 0 xs.length) [_]
  simp only [V]
  refine ⟨_,_,rfl,Nat.le_refl _,hm,fun _=>rfl,.inr rfl,fun xs' hc=>?_⟩
  simp only [newAt,JU,Option.some.injEq,Loc.rows.injEq,true_and] at hc
  subst hc
  unfold RowVal
  simp only [newAt,JU]
  exact ⟨cs,T,xs.length,_,heap_alloc_new C.w _,hl,hm,by omega,rfl,fun _=>by simp⟩
def tzero (P:Program) (t:TypeId) : Option (List Value) := (P.info? t).bind fun i => i.zero.map (·.cells.toList)
theorem Jz7 {t:TypeId} {cs:List Value} {w:World} (h:tzero P t = some cs) : ∃ z : Value,(zeroValue t).run P w = .ok z w ∧ z.cells.toList = cs := by
 unfold tzero at h
 simp only [Option.bind_eq_some_iff,Option.map_eq_some_iff] at h
 obtain ⟨i,hi,z,hz,rfl⟩:=h
 exact ⟨z,by simp [zeroValue,typeInfo,hi,hz],rfl⟩
theorem JZG (h:WR w0 Ws I0 C) {l g:Nat} {t:TypeId} {z:AV} {cs:List Value} (hnew:¬ C.used g) (hz:tzero P t = some cs) (hf:flat z = some cs) :
 ∃ y w',(Instr.alloc t true (.tuple #[])).run P C.w = .ok y w' ∧ C.Le (newAt C w' l g (some C.w.heap.size) (.var g z)) ∧ WR w0 Ws I0 (newAt C w' l g (some C.w.heap.size) (.var g z)) ∧
  SV (newAt C w' l g (some C.w.heap.size) (.var g z)) (.ptr l g 0) y:=by
 obtain ⟨zv,hr,rfl⟩:=Jz7 (P:=P) (w:=C.w) hz
 obtain ⟨k1,k2,k3⟩:=h.newVar (l:=l) (T:=t) (cs:=zv.cells) hnew (JP1 z _ hf)
 exact ⟨_,_,by simp [Instr.alloc,hr,newVar,newRow],k1,k2,k3⟩
theorem J3C (h:WR w0 Ws I0 C) {l g:Nat} {t:TypeId} {a:AV} {x:Value} (hnew:¬ C.used g) (hx:SV C a x) (hs:a.solid = true) :
 ∃ y w',(Instr.box t x).run P C.w = .ok y w' ∧ C.Le (newAt C w' l g (some C.w.heap.size) (.var g a)) ∧ WR w0 Ws I0 (newAt C w' l g (some C.w.heap.size) (.var g a)) ∧
  SV (newAt C w' l g (some C.w.heap.size) (.var g a)) (.ptr l g 0) y:=by
 obtain ⟨k1,k2,k3⟩:=h.newVar (l:=l) (T:=t) (cs:=x.cells) hnew (hx.cells hs)
 exact ⟨_,_,by simp [Instr.box,newVar,newRow],k1,k2,k3⟩
theorem JL5 (off:Nat) : ∀ (vs:List Value) (k:Nat) (cs:Array Value),off + k + vs.length ≤ cs.size →
 (vs.zipIdx k).foldl (fun cs (x:Value × Nat)=>cs.setIfInBounds (off + x.2) x.1) cs = (cs.toList.take (off + k) ++ vs ++ cs.toList.drop (off + k + vs.length)).toArray
 | [],k,cs,_=>by simp
 | v :: vs,k,cs,h=>by
   simp only [List.length_cons] at h
   rw [List.zipIdx_cons,List.foldl_cons,JL5 off vs (k + 1) _ (by simp; omega)]
   apply Array.ext'
   have e:=list_seg_step cs.toList (off + k) v vs (by simp; omega)
   simpa [Array.toList_setIfInBounds,Nat.add_assoc] using e
theorem JVS {place:Nat → Option (Nat × Nat)} {cells:Array Value} {i off sz:Nat} {v:Value} {rest:List (Nat × Value)} (hp:place i = some (off,sz)) (hs:v.cells.size = sz) (hfit:off + sz ≤ cells.size) :
 Instr.fill place cells ((i,v) :: rest) = Instr.fill place (cells.toList.take off ++ v.cells.toList ++ cells.toList.drop (off + sz)).toArray rest:=by
 have e:=JL5 off v.cells.toList 0 cells (by simp; omega)
 have hz:v.cells.zipIdx.foldl (fun cs (c,j)=>cs.setIfInBounds (off + j) c) cells = (v.cells.toList.zipIdx 0).foldl (fun cs (x:Value × Nat)=>cs.setIfInBounds (off + x.2) x.1) cells:=by
  rw [← Array.foldl_toList]; simp
 have hn:¬ (v.cells.size ≠ sz ∨ cells.size < off + v.cells.size):=by omega
 rw [Instr.fill,hp]
 simp only [Bool.or_eq_true,decide_eq_true_eq,gt_iff_lt,ne_eq] at hn ⊢
 rw [if_neg hn,hz,e]
 simp only [Nat.add_zero,Array.length_toList,hs]
theorem J2S {C:Ctx} : ∀ {zs:List AV} {i:Nat} {z0 y:AV} {cs d:List Value},Vs C zs cs → zs[i]? = some z0 → V C y d → d.length = z0.size →
 Vs C (zs.set i y) (cs.take (AV.sizes (zs.take i)) ++ d ++ cs.drop (AV.sizes (zs.take i) + z0.size)) ∧ AV.sizes (zs.take i) + z0.size ≤ cs.length
 | [],i,_,_,_,_,_,h,_,_=>by simp at h
 | z :: zs,0,z0,y,cs,d,hv,h,hy,hd=>by
   simp only [List.getElem?_cons_zero,Option.some.injEq] at h
   subst h
   simp only [Vs] at hv
   obtain ⟨c1,c2,rfl,h1,h2⟩:=hv
   have hl:=Jbn _ _ h1
   simp only [List.set_cons_zero,List.take_zero,AV.sizes,Nat.zero_add,List.nil_append,Vs]
   refine ⟨⟨d,c2,?_,hy,h2⟩,by rw [List.length_append]; omega⟩
   rw [← hl,List.drop_left]
 | z :: zs,i + 1,z0,y,cs,d,hv,h,hy,hd=>by
   simp only [List.getElem?_cons_succ] at h
   simp only [Vs] at hv
   obtain ⟨c1,c2,rfl,h1,h2⟩:=hv
   have hl:=Jbn _ _ h1
   obtain ⟨k1,k2⟩:=J2S h2 h hy hd
   simp only [List.set_cons_succ,List.take_succ_cons,AV.sizes,Vs]
   refine ⟨⟨c1,_,?_,h1,k1⟩,by rw [List.length_append]; omega⟩
   rw [← hl,List.take_append,List.drop_append,List.take_of_length_le (l:=c1) (by omega),List.drop_of_length_le (l:=c1) (by omega)]
   simp [List.append_assoc,Nat.add_assoc]
def buildA : List AV → List (Nat × AV) → Option (List AV)
 | zs,[]=>some zs
 | zs,(i,x) :: r=>match zs[i]? with
   | some z=>if x.solid = true ∧ x.size = z.size then buildA (zs.set i x) r else none
   | none=>none
def buildE (sz:Nat) : List AV → List (Nat × AV) → Option (List AV)
 | zs,[]=>some zs
 | zs,(i,x) :: r=>if i < zs.length ∧ x.solid = true ∧ x.size = sz then buildE sz (zs.set i x) r else none
def PartsOk (C:Ctx) : List (Nat × AV) → List (Nat × Value) → Prop
 | [],ys=>ys = []
 | (i,a) :: r,ys=>∃ y ys',ys = (i,y) :: ys' ∧ SV C a y ∧ PartsOk C r ys'
theorem JNE {C:Ctx} {place:Nat → Option (Nat × Nat)} : ∀ {parts:List (Nat × AV)} {ys:List (Nat × Value)} {zs r:List AV} {cells:Array Value},PartsOk C parts ys → buildA zs parts = some r → Vs C zs cells.toList →
 (∀ i z,zs[i]? = some z → place i = some (AV.sizes (zs.take i),z.size)) → ∃ cells',Instr.fill place cells ys = some cells' ∧ Vs C r cells'.toList
 | [],ys,zs,r,cells,hp,hb,hv,_=>by
   simp only [PartsOk] at hp
   simp only [buildA,Option.some.injEq] at hb
   subst hp hb
   exact ⟨cells,rfl,hv⟩
 | (i,a) :: parts,ys,zs,r,cells,hp,hb,hv,hpl=>by
   simp only [PartsOk] at hp
   obtain ⟨y,ys',rfl,hy,hp'⟩:=hp
   simp only [buildA] at hb
   split at hb
   ·rename_i z hz
    split at hb
    ·rename_i hc
     have hyc:=hy.cells hc.1
     have hl:=Jbn _ _ hyc
     obtain ⟨k1,k2⟩:=J2S hv hz hyc (by rw [hl,hc.2])
     simp only [Array.length_toList] at k2 hl
     rw [JVS (hpl i z hz) (by rw [hl,hc.2]) k2]
     have hsz:∀ k,AV.sizes ((zs.set i a).take k) = AV.sizes (zs.take k):=by
      have aux:∀ (l:List AV) (i k:Nat) (z:AV),l[i]? = some z → a.size = z.size → AV.sizes ((l.set i a).take k) = AV.sizes (l.take k):=by
       intro l
       induction l with
       | nil=>intro i k z h; simp at h
       | cons x l ih =>
         intro i k z h he
         cases k with
         | zero=>simp
         | succ k =>
           cases i with
           | zero=>simp only [List.getElem?_cons_zero,Option.some.injEq] at h; subst h; simp [AV.sizes,he]
           | succ i=>simp only [List.getElem?_cons_succ] at h; simp [AV.sizes,ih i k z h he]
      exact fun k=>aux zs i k z hz hc.2
     refine JNE hp' hb (by simpa using k1) (fun j z' hz'=>?_)
     rw [hsz]
     rw [List.getElem?_set] at hz'
     split at hz'
     ·rename_i hij
      subst hij
      split at hz'
      ·obtain rfl:=Option.some.inj hz'; rw [hc.2]; exact hpl i z hz
      ·cases hz'
     ·exact hpl j z' hz'
    ·cases hb
   ·cases hb
theorem JLc {C:Ctx} {sz:Nat} {place:Nat → Option (Nat × Nat)} (hpl:∀ i,place i = some (i * sz,sz)) : ∀ {parts:List (Nat × AV)} {ys:List (Nat × Value)} {zs r:List AV} {cells:Array Value},PartsOk C parts ys → buildE sz zs parts = some r → Es C sz zs cells.toList →
 ∃ cells',Instr.fill place cells ys = some cells' ∧ Es C sz r cells'.toList
 | [],ys,zs,r,cells,hp,hb,hv=>by
   simp only [PartsOk] at hp
   simp only [buildE,Option.some.injEq] at hb
   subst hp hb
   exact ⟨cells,rfl,hv⟩
 | (i,a) :: parts,ys,zs,r,cells,hp,hb,hv=>by
   simp only [PartsOk] at hp
   obtain ⟨y,ys',rfl,hy,hp'⟩:=hp
   simp only [buildE] at hb
   split at hb
   ·rename_i hc
    have hyc:=hy.cells hc.2.1
    have hl:=Jbn _ _ hyc
    have k1:=JZe hv hc.1 (by rw [hl,hc.2.2]) hyc
    have hlen:=Jw hv
    have hmul:(i + 1) * sz ≤ zs.length * sz:=Nat.mul_le_mul_right _ hc.1
    rw [Nat.succ_mul] at hmul
    simp only [Array.length_toList] at hlen hl
    rw [JVS (hpl i) (by rw [hl,hc.2.2]) (by omega)]
    exact JLc hpl hp' hb (by simpa using k1)
   ·cases hb
end
end
section
open Go
section
variable {P:Program} {w0:World} {Ws I0:Nat → Prop} {C:Ctx}
def placesOk (P:Program) : Nat → List Field → List AV → Bool
 | _,[],zs=>zs.isEmpty
 | off,f :: fs,z :: zs=>f.offset == off && tsz P f.type == some z.size && placesOk P (off + z.size) fs zs
 | _,_,[]=>false
theorem JPQ {w:World} : ∀ {fs:List Field} {zs:List AV} {off:Nat},placesOk P off fs zs = true →
 ∃ ps:List (Nat × Nat),(fs.mapM (m:=Sem) fun f=>do pure (f.offset,← sizeOf f.type)).run P w = .ok ps w ∧ ∀ i z,zs[i]? = some z → ps[i]? = some (off + AV.sizes (zs.take i),z.size)
 | [],zs,off,h=>by
   simp only [placesOk,List.isEmpty_iff] at h
   subst h
   exact ⟨[],by simp,by simp⟩
 | f :: fs,[],off,h=>by simp [placesOk] at h
 | f :: fs,z0 :: zs,off,h=>by
   simp only [placesOk,Bool.and_eq_true,beq_iff_eq] at h
   obtain ⟨ps,h1,h2⟩:=JPQ (w:=w) h.2
   refine ⟨(f.offset,z0.size) :: ps,?_,?_⟩
   ·simp only [List.mapM_cons,Sem.run_bind,JP h.1.2,Result.andThen_ok,Sem.run_pure]
    rw [h1]
    rfl
   ·intro i z hz
    cases i with
    | zero=>simp only [List.getElem?_cons_zero,Option.some.injEq] at hz; subst hz; simp [AV.sizes,h.1.1]
    | succ i =>
      simp only [List.getElem?_cons_succ] at hz ⊢
      rw [h2 i z hz]
      simp only [List.take_succ_cons,AV.sizes,Nat.add_assoc]
theorem JZQ {t:TypeId} {fields:Array Field} {zs r:List AV} {cs:List Value} {parts:List (Nat × AV)} {ys:List (Nat × Value)} (hu:P.underlying t = some (.struct fields)) (hz:tzero P t = some cs) (hf:flats zs = some cs)
 (hpl:placesOk P 0 fields.toList zs = true) (hp:PartsOk C parts ys) (hb:buildA zs parts = some r) :
 ∃ y,(Instr.build t ys.toArray).run P C.w = .ok y C.w ∧ SV C (.node r) y:=by
 obtain ⟨zv,hr,rfl⟩:=Jz7 (P:=P) (w:=C.w) hz
 obtain ⟨ps,h1,h2⟩:=JPQ (w:=C.w) hpl
 obtain ⟨cells',h3,h4⟩:=JNE (place:=(ps.toArray[·]?)) hp hb (JUN zs _ hf) (fun i z hz=>by simpa using h2 i z hz)
 refine ⟨.agg cells',?_,⟨cells',rfl,by simpa only [V] using h4⟩⟩
 have hm:(fields.mapM (m:=Sem) fun f=>do pure (f.offset,← sizeOf f.type)).run P C.w = .ok ps.toArray C.w:=by
  rw [Array.mapM_eq_mapM_toList]
  simp only [Sem.run_map,h1,Result.andThen_ok]
 simp only [Instr.build,Sem.run_bind,hr,Result.andThen_ok,run_underlying hu,hm,h3,Sem.run_pure]
theorem JRO {t e:TypeId} {n sz:Nat} {zs r:List AV} {cs:List Value} {parts:List (Nat × AV)} {ys:List (Nat × Value)} (hu:P.underlying t = some (.array n e)) (hs:tsz P e = some sz) (hz:tzero P t = some cs) (hf:flatE sz zs = some cs)
 (hp:PartsOk C parts ys) (hb:buildE sz zs parts = some r):∃ y,(Instr.build t ys.toArray).run P C.w = .ok y C.w ∧ SV C (.arr sz r) y:=by
 obtain ⟨zv,hr,rfl⟩:=Jz7 (P:=P) (w:=C.w) hz
 obtain ⟨cells',h3,h4⟩:=JLc (place:=fun i=>some (i * sz,sz)) (fun _=>rfl) hp hb (JVH sz zs _ hf)
 refine ⟨.agg cells',?_,⟨cells',rfl,by simpa only [V] using h4⟩⟩
 simp [Instr.build,hr,run_underlying hu,JP hs,h3]
theorem Jm8 {sz:Nat} {z:AV} {zv:Array Value} (hf:flat z = some zv.toList) (hl:zv.size = sz) (h0:0 < sz) : ∀ n,Es C sz (List.replicate n z) (madeCells zv (n * sz)).toList := by
 have hpiece:∀ n,(madeCells zv ((n + 1) * sz)).toList = (madeCells zv (n * sz)).toList ++ zv.toList:=by
  intro n
  apply List.ext_getElem?
  intro j
  simp only [madeCells,Array.toList_map,Array.toList_range,List.getElem?_map,List.getElem?_append,List.length_map,List.length_range]
  rw [Nat.succ_mul]
  by_cases h1:j < n * sz
  ·rw [if_pos h1,List.getElem?_range (by omega),List.getElem?_range h1]
  ·rw [if_neg h1]
   by_cases h2:j < n * sz + sz
   ·rw [List.getElem?_range h2]
    have e:j % zv.size = j - n * sz:=by
     obtain ⟨m,rfl⟩:∃ m,j = n * sz + m:=⟨j - n * sz,by omega⟩
     rw [hl,Nat.mul_add_mod_self_right,Nat.mod_eq_of_lt (by omega)]
     omega
    simp only [Option.map_some,e]
    have hlt:j - n * sz < zv.size:=by omega
    simp [hlt]
   ·rw [List.getElem?_eq_none (by simp; omega),List.getElem?_eq_none (by simp; omega)]
    rfl
 intro n
 induction n with
 | zero=>simp [madeCells,Es]
 | succ n ih =>
   rw [hpiece,List.replicate_succ']
   exact JgP ih (J7u (JP1 z _ hf) (by simpa using hl))
theorem JWC (h:WR w0 Ws I0 C) {l g:Nat} {t e:TypeId} {n sz:Nat} {z:AV} {cs:List Value} {r:List AV} {parts:List (Nat × AV)} {ys:List (Nat × Value)} (hnew:¬ C.used g) (hu:P.underlying t = some (.slice e)) (hs:tsz P e = some sz) (h0:0 < sz)
 (hz:tzero P e = some cs) (hf:flat z = some cs) (hl:cs.length = sz) (hn:n * sz ≤ 16777216) (hp:PartsOk C parts ys) (hb:buildE sz (List.replicate n z) parts = some r) (hrl:r.length = n) :
 ∃ y w',(Instr.buildSlice t n ys.toArray).run P C.w = .ok y w' ∧ C.Le (newAt C w' l g (some C.w.heap.size) (.rows g sz r)) ∧ WR w0 Ws I0 (newAt C w' l g (some C.w.heap.size) (.rows g sz r)) ∧
  SV (newAt C w' l g (some C.w.heap.size) (.rows g sz r)) (.row l sz g 0 n) y:=by
 obtain ⟨zv,hr,rfl⟩:=Jz7 (P:=P) (w:=C.w) hz
 have hl':zv.cells.size = sz:=by simpa using hl
 have hz0:=Jm8 (C:=C) hf hl' h0 n
 obtain ⟨cells',h3,h4⟩:=JLc (place:=fun i=>some (i * sz,sz)) (fun _=>rfl) hp hb hz0
 have hm:n ≤ maxLen:=by
  have:n * 1 ≤ n * sz:=Nat.mul_le_mul_left _ h0
  unfold maxLen; omega
 obtain ⟨k1,k2,k3⟩:=h.newRows (l:=l) (T:=e) hnew h4 hrl hm
 refine ⟨_,_,?_,k1,k2,k3⟩
 have hn':¬ (n * sz > 2 ^ 24):=by omega
 by_cases hn0:n * sz = 0
 ·have hn1:n = 0:=by rcases Nat.mul_eq_zero.1 hn0 with h | h <;> omega
  subst hn1
  have e1:madeCells zv.cells (0 * sz) = (Array.range 0).map (fun i=>(#[]:Array Value)[i % (#[]:Array Value).size]!):=by
   have r0:Array.range 0 = #[]:=rfl
   simp only [madeCells,Nat.zero_mul,r0,List.map_toArray,List.map_nil]
  rw [e1] at h3
  simp only [Instr.buildSlice,Sem.run_bind,run_underlying hu,Result.andThen_ok,JP hs,Nat.zero_mul,Nat.not_lt_zero,gt_iff_lt,if_false,if_true,Sem.run_pure,h3,newRow,run_newObj,World.alloc_eq]
 ·have e1:madeCells zv.cells (n * sz) = (Array.range (n * sz)).map (fun i=>zv.cells[i % zv.cells.size]!):=rfl
  rw [e1] at h3
  simp only [Instr.buildSlice,Sem.run_bind,run_underlying hu,Result.andThen_ok,JP hs,if_neg hn',if_neg hn0,hr,Sem.run_pure,h3,newRow,run_newObj,World.alloc_eq]
theorem J0P (h:WR w0 Ws I0 C) {l g:Nat} {t e:TypeId} {sz bytes:Nat} {n:Nat} {z:AV} {cs:List Value} {k1 k2:IntKind} (hnew:¬ C.used g) (hu:P.underlying t = some (.slice e)) (hs:tsz P e = some sz) (h0:0 < sz)
 (hz:tzero P e = some cs) (hf:flat z = some cs) (hl:cs.length = sz) (hby:(P.info? e).map (·.bytes) = some bytes) (hb:bytes * n ≤ 281474976710656) (hm:n ≤ maxLen) :
 ∃ y w',(Instr.makeSlice t (.int k1 n) (.int k2 n)).run P C.w = .ok y w' ∧ C.Le (newAt C w' l g (some C.w.heap.size) (.rows g sz (List.replicate n z))) ∧ WR w0 Ws I0 (newAt C w' l g (some C.w.heap.size) (.rows g sz (List.replicate n z))) ∧
  SV (newAt C w' l g (some C.w.heap.size) (.rows g sz (List.replicate n z))) (.row l sz g 0 n) y:=by
 unfold tzero at hz
 simp only [Option.bind_eq_some_iff,Option.map_eq_some_iff] at hz
 obtain ⟨i,hi,zv,hzv,rfl⟩:=hz
 have hl':zv.cells.size = sz:=by simpa using hl
 have hz0:=Jm8 (C:=C) hf hl' h0 n
 have hisz:i.size = sz:=by simpa [tsz,hi] using hs
 have hiby:i.bytes = bytes:=by simpa [hi] using hby
 have hr:=run_make (P:=P) C.w t e i zv hu hi hzv k1 k2 (n:Int) n (by omega) (by omega) (by rw [hiby]; have h2:=Int.ofNat_le.mpr hb; rw [Int.natCast_mul] at h2; exact h2) (by unfold maxLen at hm; omega)
 simp only [Int.toNat_natCast,hisz] at hr
 obtain ⟨a1,a2,a3⟩:=h.newRows (l:=l) (T:=e) hnew hz0 (by simp:(List.replicate n z).length = n) hm
 exact ⟨_,_,hr,a1,a2,a3⟩
end
end
section
open Go
section
variable {P:Program} {w0:World} {Ws I0:Nat → Prop} {C:Ctx}
def elemsAt (sz:Nat) : AV → Nat → Option (List AV)
 | .arr s xs,off=>if s = sz ∧ 0 < sz ∧ off % sz = 0 ∧ off / sz ≤ xs.length then some (xs.drop (off / sz)) else none
 | _,_=>none
def refOf : AV → Option Nat
 | .ptr l _ _=>some l
 | .row l _ _ _ _=>some l
 | .vrow l _ _ _ _ _=>some l
 | .rptr l _ _ _ _=>some l
 | .oref l _ _=>some l
 | _=>none
def srcA (m:Nat → Option Loc) (sz:Nat) (a:AV) : Option (List AV) :=
 match a with
 | .sl s xs=>if s = sz then some xs else none
 | .row l s0 g off n=>match m l with
   | some (.rows g' s xs)=>if g' = g ∧ s = s0 ∧ s = sz ∧ off + n ≤ xs.length then some ((xs.drop off).take n) else none
   | _=>none
 | .vrow l g off s n _=>match m l with
   | some (.var g' y)=>if g' = g ∧ s = sz then (elemsAt sz y off).bind fun xs=>if n ≤ xs.length then some (xs.take n) else none else none
   | _=>none
 | .v (.slice none 0 0)=>some []
 | _=>none
theorem JXg {sz:Nat} {y:AV} {off:Nat} {xs:List AV} {cs:List Value} (h:elemsAt sz y off = some xs) (hv:V C y cs) : Es C sz xs (cs.drop off) := by
 unfold elemsAt at h
 split at h
 ·rename_i s zs
  split at h
  ·rename_i hc
   obtain ⟨rfl,h0,h1,h2⟩:=hc
   obtain rfl:=Option.some.inj h
   simp only [V] at hv
   have:=JN4 (n:=off / s) hv
   have e:off / s * s = off:=by have:=Nat.div_add_mod off s; rw [h1] at this; rw [Nat.mul_comm]; omega
   rwa [e] at this
  ·cases h
 ·cases h
theorem JR8 (hw:WR w0 Ws I0 C) {sz:Nat} {a:AV} {x:Value} {xs:List AV} (hp:SV C a x) (h:srcA C.m sz a = some xs) :
 ∃ ao cap news,x = .slice ao xs.length cap ∧ xs.length ≤ cap ∧ cap ≤ maxLen ∧ Es C sz xs news ∧ (xs = [] ∨ ∃ b o,ao = some ⟨b,o,none⟩ ∧ CellsAt C.w b o news ∧ (C.I b ∨ ∃ l c,refOf a = some l ∧ C.m l = some c ∧ C.blk l = some b)):=by
 unfold srcA at h
 split at h
 ·rename_i s zs
  split at h
  ·rename_i hs
   subst hs
   obtain rfl:=Option.some.inj h
   have hp':V C (.sl s zs) [x]:=hp
   simp only [V] at hp'
   obtain ⟨ao,cap,body,e1,h2,h3,h4,h5⟩:=hp'
   obtain rfl:=(List.cons.inj e1).1
   refine ⟨ao,cap,body,rfl,h2,h3,h4,h5.imp id ?_⟩
   rintro ⟨b,o,e,hi,hc⟩
   exact ⟨b,o,e,hc,.inl hi⟩
  ·cases h
 ·rename_i l s0 g off n
  split at h
  ·rename_i g' s zs hm
   split at h
   ·rename_i hc
    obtain ⟨rfl,rfl,rfl,hfit⟩:=hc
    obtain rfl:=Option.some.inj h
    have hp':V C (.row l s g' off n) [x]:=hp
    simp only [V] at hp'
    obtain ⟨ao,cap0,e1,hnc0,hmx0,hso,hg,k'⟩:=hp'
    obtain rfl:=(List.cons.inj e1).1
    have hrv:=k' _ hm
    have hlen:((zs.drop off).take n).length = n:=by rw [List.length_take,List.length_drop]; omega
    unfold RowVal at hrv
    split at hrv
    ·obtain ⟨rfl,rfl,ao,e5⟩:=hrv
     obtain ⟨rfl,_,rfl⟩:=(by simpa using e5)
     exact ⟨_,0,[],by simp; rfl,by simp,by simp [maxLen],by simp [Es],.inl (by simp)⟩
    ·rename_i b hb
     obtain ⟨cur,T,cap,ad,h1,h2,h3,h4,e5,h6⟩:=hrv
     rw [e5]
     rcases hw.locs l _ hm with ⟨h7,_⟩ | ⟨b',cur',T',cap',h7,h8,h9,h10,h11,h12⟩
     ·rw [hb] at h7; cases h7
     ·rw [hb] at h7
      obtain rfl:=Option.some.inj h7
      rw [h1] at h8
      obtain ⟨rfl,rfl⟩:=(by simpa using h8:cur = cur' ∧ T = T')
      refine ⟨some ad,cap - off,_,by rw [hlen],by omega,by omega,JKY (JN4 h12),?_⟩
      by_cases hn:n = 0
      ·left; subst hn; simp
      ·right
       refine ⟨b,off * s,by rw [h6 (.inl (by omega))],?_,.inr ⟨l,_,rfl,hm,hb⟩⟩
       have hc:=((Jby (o:=0) (n:=zs.length * s) h1).part (off * s) (zs.length * s - off * s)).part 0 (n * s)
       rw [List.drop_zero] at hc
       simp only [Nat.zero_add,Nat.add_zero,List.drop_zero] at hc
       rwa [← List.drop_take,List.take_take,Nat.min_self] at hc
   ·cases h
  ·cases h
 ·rename_i l g off s n cap
  split at h
  ·rename_i g' y hm
   split at h
   ·rename_i hc
    obtain ⟨rfl,rfl⟩:=hc
    simp only [Option.bind_eq_some_iff] at h
    obtain ⟨zs,hz,h⟩:=h
    split at h
    ·rename_i hn
     obtain rfl:=Option.some.inj h
     have hp':V C (.vrow l g' off s n cap) [x]:=hp
     simp only [V] at hp'
     obtain ⟨ad,e1,hnc,hmx,hg,k'⟩:=hp'
     obtain rfl:=(List.cons.inj e1).1
     obtain ⟨b,hb,ha⟩:=k' _ hm
     obtain ⟨b',cur,T,h1,h2,h3⟩:=hw.locs l _ hm
     rw [hb] at h1
     obtain rfl:=Option.some.inj h1
     have hlen:(zs.take n).length = n:=by rw [List.length_take]; omega
     have hE:=JXg hz h3
     refine ⟨some ad,cap,_,by rw [hlen],by omega,hmx,JKY hE,?_⟩
     by_cases hn0:n = 0
     ·left; subst hn0; simp
     ·right
      refine ⟨b,off,by rw [ha (by omega)],Jby h2,.inr ⟨l,_,rfl,hm,hb⟩⟩
    ·cases h
   ·cases h
  ·cases h
 ·obtain rfl:=Option.some.inj h
  have hp':V C (.v (.slice none 0 0)) [x]:=hp
  simp only [V] at hp'
  obtain rfl:=(List.cons.inj hp'.1).1
  exact ⟨none,0,[],rfl,by simp,by simp [maxLen],by simp [Es],.inl rfl⟩
 ·cases h
end
end
end Go.Proofs.YtlajjoekbcjfnaaGreatDoor.WL
