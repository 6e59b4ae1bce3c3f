import Derived.Test.YtlajjoekbcjfnaaGreatDoorWx2
import Derived.Orders
import Derived.Deep.LoopGhost
import Derived.ScopeJumps
namespace Go.Proofs.YtlajjoekbcjfnaaGreatDoor.WL
set_option linter.all false
section
open Go
theorem Jpo (m:Nat → Option Loc) : ∀ (us vs:List (Nat × Option Loc)),ups m (us ++ vs) = ups (ups m us) vs
 | [],_=>rfl
 | (_,_) :: us,vs=>Jpo _ us vs
theorem Jev : ∀ (us:List (Nat × Option Loc)) (m:Nat → Option Loc) {l:Nat},l ∉ us.map (·.1) → ups m us l = m l
 | [],_,_,_=>rfl
 | (k,c) :: us,m,l,h=>by
   simp only [List.map_cons,List.mem_cons,not_or] at h
   rw [ups,Jev us _ h.2,Jx _ _ h.1]
theorem JRc : ∀ (ks:List Nat) (m:Nat → Option Loc) (l:Nat),ups m (ks.map fun k=>(k,none)) l = if l ∈ ks then none else m l
 | [],_,_=>by simp [ups]
 | k :: ks,m,l=>by
   simp only [List.map_cons,ups,JRc ks,List.mem_cons]
   by_cases h:l ∈ ks
   ·simp [h]
   ·by_cases e:l = k
    ·subst e; simp [h]
    ·simp [h,e,Jx _ _ e]
theorem JV3 : ∀ {N:List (Nat × Loc)} {m:Nat → Option Loc} {l:Nat} {c:Loc},(N.map (·.1)).Nodup → (l,c) ∈ N → ups m (N.map fun e=>(e.1,some e.2)) l = some c
 | [],_,_,_,_,h=>by cases h
 | (k,c0) :: N,m,l,c,hn,h=>by
   simp only [List.map_cons,List.nodup_cons] at hn
   simp only [List.map_cons,ups]
   rcases List.mem_cons.1 h with e | h
   ·obtain ⟨rfl,rfl⟩:=(by simpa using e:l = k ∧ c = c0)
    rw [Jev]
    ·simp
    ·simpa using hn.1
   ·exact JV3 hn.2 h
theorem JH1 {α:Type} {f:α → Nat} : ∀ {l:List α} {a:α},(l.map f).Nodup → a ∈ l → l.find? (fun x=>decide (f x = f a)) = some a
 | [],_,_,h=>by cases h
 | x :: l,a,hn,h=>by
   simp only [List.map_cons,List.nodup_cons] at hn
   rcases List.mem_cons.1 h with rfl | h
   ·simp
   ·have hne:f x ≠ f a:=fun e=>hn.1 (e ▸ List.mem_map_of_mem (f:=f) h)
    rw [List.find?_cons_of_neg (by simpa using hne)]
    exact JH1 hn.2 h
def Sim (P:Program) (w0:World) (Ws I0:Nat → Prop) (C:Ctx) (g:Nat) (o:Oper) (a:Act) (av:AV) (us:List (Nat × Option Loc)) : Prop :=
 ∀ (K:Act → World → Prop) (Q:Exit → Act → World → Prop),(∀ y C',SV C' av y → C.Le C' → WR w0 Ws I0 C' → C'.m = ups C.m us → (∀ k,C'.used k → C.used k ∨ k = g) → K (a.put o.dst y) C'.w) → o.wp P a C.w K Q
theorem Does.sim {P:Program} {w0:World} {Ws I0:Nat → Prop} {C:Ctx} {g:Nat} {o:Oper} {a:Act} {av:AV} {us:List (Nat × Option Loc)} (h:Does P w0 Ws I0 C g o a av us) : Sim P w0 Ws I0 C g o a av us := by
 intro K Q hK
 obtain ⟨nx,y,w',C',h1,h2,h3,rfl,h5,h6,h7,h8⟩:=h
 unfold Oper.wp
 rw [h1]
 rcases h2 with rfl | ⟨rfl,rfl⟩
 ·exact hK y C' h3 h5 h6 h7 h8
 ·exact hK undef C' h3 h5 h6 h7 h8
structure CallOk (P:Program) (G:Nat → Option AV) (f:Nat) (vals:List AV) (m:Nat → Option Loc) (g nb:Nat) (L:Names) (args:List AV) (M:List (Nat × Loc)) (keep:Bool) (res:AV) (M':List (Nat × Loc)) (T:List Nat) : Prop where
 meets:Meets P G f args M keep res M'
 fit:FitL m L vals args
 lent:∀ t ∈ touchL m vals args,t ∈ T
 st:StampedL (· = 0) args
 named:Named m L M T (· = 0)
 back:((renM L nb g M').map (·.1)).Nodup
 old:∀ e ∈ M',e.2.gen = 0 → ∃ q,look L e.1 = some (some q)
def callUs (nb g:Nat) (L:Names) (M:List (Nat × Loc)) (keep:Bool) (M':List (Nat × Loc)) (T:List Nat) : List (Nat × Option Loc) :=
 ((srcs L M).map fun k=>(k,none)) ++ (((if keep = true then [] else T).map fun k=>(k,none)) ++ (renM L nb g M').map fun e=>(e.1,some e.2))
section
variable {P:Program} {w0:World} {Ws I0:Nat → Prop} {C:Ctx} {G:Nat → Option AV}
theorem J01 (hw:WR w0 Ws I0 C) (hG:GR C G) {f g nb:Nat} {vals:List AV} {L:Names} {args:List AV} {M:List (Nat × Loc)} {keep:Bool} {res:AV} {M':List (Nat × Loc)} {T:List Nat} (hnew:¬ C.used g)
 (h:CallOk P G f vals C.m g nb L args M keep res M' T) {o:Oper} {a:Act} {xs:List COpd} (hc:chkOp P o.op xs (.call f) = true) (hs:SVl C vals ((match o.op with | .call c=>c.args.toList | _=>[]).map a.eval)) :
 Sim P w0 Ws I0 C g o a (renA L nb g res) (callUs nb g L M keep M' T):=by
 intro K Q hK
 have hseen:=h.named.seen
 have hwc:WR C.w (fun b=>∃ l ∈ srcs L M,∃ c,C.m l = some c ∧ C.blk l = some b) (reCtx C L M T (· = 0)).I (reCtx C L M T (· = 0)) :=
  h.named.wr hw (fun _ h=>h) (fun l c b h1 h2 h3=>.inl ⟨l,h1,c,h2,h3⟩) (fun _ h=>.inl h) rfl rfl rfl (Nat.le_refl _) (fun _ _ _=>rfl)
 have hGc:GR (reCtx C L M T (· = 0)) G:=fun n x hx=>⟨(hG n x hx).1,JGg (fun j hj=>⟨hseen.I j hj,by rw [hseen.w]⟩) (.iptr x) _ (by simpa [closed] using (hG n x hx).1) (hG n x hx).2⟩
 have hargs:=JZP hw hseen h.fit h.lent h.st hs
 have hcall:=h.meets.2 (reCtx C L M T (· = 0)) _ _ hwc rfl (fun _=>Iff.rfl) hGc hargs
 obtain ⟨dst,op,type,pos,after,guard⟩:=o
 simp only [chkOp] at hc
 split at hc <;> first | (cases hc; done) | skip
 rename_i f0 cargs cat
 simp only [Bool.and_eq_true,beq_iff_eq] at hc
 obtain ⟨⟨rfl,hgo⟩,hc⟩:=hc
 unfold Oper.wp
 have hrun:(execOp a.eval { dst:=dst,op:=.call { callee:=.value (.func f0),args:=cargs,argTypes:=cat },type:=type,pos:=pos,after:=after,guard:=guard }).run P C.w = .ok (.enter f0 (cargs.map a.eval)) C.w:=by
  have e:execOp a.eval { dst:=dst,op:=.call { callee:=.value (.func f0),args:=cargs,argTypes:=cat },type:=type,pos:=pos,after:=after,guard:=guard } = callFunc f0 (#[] ++ cargs.map a.eval ++ #[]):=rfl
  rw [e,J0X hgo]
  simp
 rw [hrun,Oper.upon_enter]
 have hae:(cargs.toList.map a.eval).toArray = cargs.map a.eval:=by apply Array.ext'; simp
 simp only at hcall
 rw [hae] at hcall
 refine Calls.mono hcall ?_
 rintro e w'' ⟨y,C1,rfl,rfl,hle1,hw1,hm1,hv1⟩
 obtain ⟨⟨hgM,hgr,hnd⟩,_⟩:=h.meets
 let fk:Nat × Loc → Nat:=fun e=>(kap L nb g e.1 e.2.gen).1
 have hbk:(M'.map fk).Nodup:=by
  have:=h.back
  simpa [renM,List.map_map,Function.comp_def] using this
 let C':Ctx:=⟨C1.w,fun k=>(keep = true ∧ C.I k) ∨ (keep = false ∧ C1.I k),fun l=>match M'.find? (fun e=>decide (fk e = l)) with | some e=>C1.blk e.1 | none=>C.blk l,
  ups C.m (callUs nb g L M keep M' T),fun k=>C.used k ∨ k = g⟩
 have hin:∀ e ∈ M',C'.m (fk e) = some (renLoc L nb g e.1 e.2) ∧ C'.blk (fk e) = C1.blk e.1:=by
  intro e he
  constructor
  ·show ups C.m (callUs nb g L M keep M' T) (fk e) = _
   unfold callUs
   rw [Jpo,Jpo]
   exact JV3 h.back (List.mem_map.2 ⟨e,he,rfl⟩)
  ·show (match M'.find? (fun x=>decide (fk x = fk e)) with | some e=>C1.blk e.1 | none=>C.blk (fk e)) = _
   rw [JH1 hbk he]
 have hout:∀ l,(∀ e ∈ M',fk e ≠ l) → C'.blk l = C.blk l ∧ ∀ c,C'.m l = some c → C.m l = some c ∧ l ∉ srcs L M ∧ (keep = false → l ∉ T):=by
  intro l hl
  have hnf:M'.find? (fun e=>decide (fk e = l)) = none:=by
   rw [List.find?_eq_none]
   intro e he
   simpa using hl e he
  constructor
  ·show (match M'.find? (fun e=>decide (fk e = l)) with | some e=>C1.blk e.1 | none=>C.blk l) = _
   rw [hnf]
  ·intro c hc
   have hc':ups C.m (callUs nb g L M keep M' T) l = some c:=hc
   unfold callUs at hc'
   rw [Jpo,Jpo,Jev _ _ (by
    simp only [List.map_map,renM]
    intro hmem
    obtain ⟨e,he,e2⟩:=List.mem_map.1 hmem
    exact hl e he e2),JRc,JRc] at hc'
   by_cases h1:l ∈ (if keep = true then [] else T)
   ·rw [if_pos h1] at hc'; cases hc'
   ·rw [if_neg h1] at hc'
    by_cases h2:l ∈ srcs L M
    ·rw [if_pos h2] at hc'; cases hc'
    ·rw [if_neg h2] at hc'
     exact ⟨hc',h2,fun hk=>by simpa [hk] using h1⟩
 have hcase:∀ l c,C'.m l = some c → (∃ e ∈ M',l = fk e ∧ c = renLoc L nb g e.1 e.2) ∨ ((∀ e ∈ M',fk e ≠ l) ∧ C.m l = some c ∧ l ∉ srcs L M ∧ (keep = false → l ∉ T)):=by
  intro l c hc
  by_cases hex:∃ e ∈ M',fk e = l
  ·obtain ⟨e,he,rfl⟩:=hex
   left
   rw [(hin e he).1] at hc
   exact ⟨e,he,rfl,(Option.some.inj hc).symm⟩
  ·right
   have hl:∀ e ∈ M',fk e ≠ l:=fun e he e2=>hex ⟨e,he,e2⟩
   obtain ⟨h1,h2,h3⟩:=(hout l hl).2 c hc
   exact ⟨hl,h1,h2,h3⟩
 have hWs:∀ l c b,C.m l = some c → l ∉ srcs L M → C.blk l = some b → ¬ ∃ l' ∈ srcs L M,∃ c,C.m l' = some c ∧ C.blk l' = some b:=by
  rintro l c b h1 h2 h3 ⟨l',h4,c',h5,h6⟩
  obtain rfl:=hw.inj l l' c c' b h1 h5 h3 h6
  exact h2 h4
 have hheap:∀ l c b,C.m l = some c → l ∉ srcs L M → C.blk l = some b → C1.w.heap[b]? = C.w.heap[b]?:=fun l c b h1 h2 h3=>hw1.block b (hw.own l c b h1 h3).1 (hWs l c b h1 h2 h3)
 have hImem:∀ k,C.I k → C1.w.heap[k]? = C.w.heap[k]?:=fun k hk=>hle1.mem k (.inl hk)
 have hold:∀ e ∈ M',e.2.gen = 0 → ∃ l c0,fk e = l ∧ C.m l = some c0 ∧ c0.gen = (kap L nb g e.1 e.2.gen).2 ∧ Loc.same c0 (renLoc L nb g e.1 e.2) ∧ C1.blk e.1 = C.blk l ∧
  ∀ b,C.blk l = some b → ∀ cur Ty,C.w.heap[b]? = some (.cells cur Ty (0,0)) → ∃ cur',C1.w.heap[b]? = some (.cells cur' Ty (0,0)) ∧ cur'.size = cur.size:=by
  intro e he hge
  obtain ⟨q,hLe⟩:=h.old e he hge
  have hC1:C1.m e.1 = some e.2:=by rw [hm1]; exact Jj2 hnd he
  obtain ⟨c0,k1,k2,k3,k4⟩:=hle1.loc e.1 _ hC1 hge
  have hMe:look M e.1 = some c0:=k1
  have hfe:=h.named.fit _ (Jbh hMe)
  have hgE:=Jvu hgM he
  obtain ⟨l,gl⟩:=q
  have hkap:kap L nb g e.1 e.2.gen = (l,gl):=by rw [hge]; simp [kap,hLe]
  have hblk:(reCtx C L M T (· = 0)).blk e.1 = C.blk l:=by simp [reCtx,src,hLe]
  have hcells:∀ b,C.blk l = some b → ∀ cur Ty,C.w.heap[b]? = some (.cells cur Ty (0,0)) → ∃ cur',C1.w.heap[b]? = some (.cells cur' Ty (0,0)) ∧ cur'.size = cur.size:=fun b hb cur Ty hcur=>k4 b (hblk.trans hb) cur Ty hcur
  have hfk:fk e = l:=by
   show (kap L nb g e.1 e.2.gen).1 = l
   rw [hkap]
  cases hq:e.2 with
  | rows g1 sz xs=>rw [hq] at hge hgE; simp only [Loc.gen] at hge; subst hge; simp [goodE] at hgE
  | var g1 w =>
    rw [hq] at k2 hkap
    cases c0 with
    | rows _ _ _=>simp [Loc.same] at k2
    | ob _ _ _=>simp [Loc.same] at k2
    | var g0 w0 =>
      obtain ⟨l',gl',raw,e1,e2,_⟩:=hfe
      simp only at e1
      rw [hLe] at e1
      obtain ⟨rfl,rfl⟩:=(by simpa using e1:l = l' ∧ gl = gl')
      refine ⟨l,_,hfk,e2,?_,?_,k3.trans hblk,hcells⟩
      ·rw [hkap]; rfl
      ·simp only [renLoc,Loc.same]
       simp only [Loc.gen] at hkap
       rw [hkap]
  | ob g1 q1 w =>
    rw [hq] at k2 hkap
    cases c0 with
    | rows _ _ _=>simp [Loc.same] at k2
    | var _ _=>simp [Loc.same] at k2
    | ob g0 q0 w0 =>
      obtain ⟨l',gl',raw,e1,e2,_⟩:=hfe
      simp only at e1
      rw [hLe] at e1
      obtain ⟨rfl,rfl⟩:=(by simpa using e1:l = l' ∧ gl = gl')
      simp only [Loc.same] at k2
      refine ⟨l,_,hfk,e2,?_,?_,k3.trans hblk,hcells⟩
      ·rw [hkap]; rfl
      ·simp only [renLoc,Loc.same]
       simp only [Loc.gen] at hkap
       rw [hkap]
       exact ⟨rfl,k2.2⟩
 have hnewg:∀ e ∈ M',e.2.gen ≠ 0 → (kap L nb g e.1 e.2.gen).2 = g:=fun e he hge=>by simp [kap,hge]
 have hle:C.Le C':=by
  refine ⟨fun k hk=>.inl hk,fun k hk=>?_,hImem,fun l c' hc hu=>?_⟩
  ·cases keep with
   | true=>exact .inl ⟨rfl,hk⟩
   | false=>exact .inr ⟨rfl,hle1.I k (.inl hk)⟩
  ·rcases hcase l c' hc with ⟨e,he,rfl,rfl⟩ | ⟨hl,h1,h2,h3⟩
   ·rw [JPK] at hu
    by_cases hge:e.2.gen = 0
    ·obtain ⟨l,c0,k1,k2,k3,k4,k5,k6⟩:=hold e he hge
     rw [(hin e he).2]
     rw [k1]
     exact ⟨c0,k2,k4,k5,k6⟩
    ·rw [hnewg e he hge] at hu
     exact absurd hu hnew
   ·refine ⟨c',h1,Loc.same_refl _,(hout l hl).1,fun b hb cur Ty hcur=>⟨cur,?_,rfl⟩⟩
    exact (hheap l c' b h1 h2 hb).trans hcur
 have hback:Back C1 C' L nb g keep M':=by
  refine ⟨rfl,?_,hm1,fun k c hl=>?_⟩
  ·cases keep with
   | true=>exact .inl rfl
   | false=>exact .inr fun k hk=>.inr ⟨rfl,hk⟩
  ·have he:=Jbh hl
   refine ⟨(hin _ he).1,(hin _ he).2,?_⟩
   show C.used _ ∨ _ = g
   by_cases hge:c.gen = 0
   ·obtain ⟨l,c0,k1,k2,k3,_⟩:=hold _ he hge
    have:=hw.gens l _ k2
    left
    rw [← k3]
    exact this
   ·right
    exact hnewg _ he hge
 have hIw:∀ k,C'.I k → C1.I k:=by
  rintro k (⟨_,hk⟩ | ⟨_,hk⟩)
  ·exact hle1.I k (.inl hk)
  ·exact hk
 have hm1s:∀ e ∈ M',C1.m e.1 = some e.2:=fun e he=>by rw [hm1]; exact Jj2 hnd he
 have hWs0:∀ b,(∃ l ∈ srcs L M,∃ c,C.m l = some c ∧ C.blk l = some b) → Ws b ∨ w0.heap.size ≤ b:=fun b ⟨l,_,c,h1,h2⟩=>(hw.own l c b h1 h2).2.2
 have hwr:WR w0 Ws I0 C':=by
  refine ⟨fun l c hc=>?_,fun l1 l2 c1 c2 b h1 h2 h3 h4=>?_,fun l c b hc hb=>?_,fun k hk=>?_,fun k hk=>?_,fun l c hc=>?_,hw1.os.trans hw.os,hw1.tape.trans hw.tape,hw1.output.trans hw.output,
   Nat.le_trans hw.size hw1.size,fun k hk hn=>?_⟩
  ·rcases hcase l c hc with ⟨e,he,rfl,rfl⟩ | ⟨hl,h1,h2,h3⟩
   ·exact JWY hback (Jj2 hnd he) (Jvu hgM he) (hw1.locs e.1 e.2 (hm1s e he))
   ·exact (hw.locs l c h1).mono hle (hout l hl).1 (fun b hb=>hheap l c b h1 h2 hb)
  ·have hmix:∀ e ∈ M',∀ l c b,(∀ e ∈ M',fk e ≠ l) → C.m l = some c → l ∉ srcs L M → C'.blk l = some b → C'.blk (fk e) = some b → False:=by
    intro e he l c b hl k1 k2 k3 k4
    rw [(hout l hl).1] at k3
    rw [(hin e he).2] at k4
    rcases (hw1.own e.1 e.2 b (hm1s e he) k4).2.2 with k5 | k5
    ·exact hWs l c b k1 k2 k3 k5
    ·have h5:C.w.heap.size ≤ b:=k5
     have:=(hw.own l c b k1 k3).1; omega
   rcases hcase l1 c1 h1 with ⟨e,he,rfl,rfl⟩ | ⟨hl,k1,k2,k3⟩ <;> rcases hcase l2 c2 h2 with ⟨e',he',rfl,rfl⟩ | ⟨hl',k1',k2',k3'⟩
   ·rw [(hin e he).2] at h3
    rw [(hin e' he').2] at h4
    have e1:=hw1.inj e.1 e'.1 e.2 e'.2 b (hm1s e he) (hm1s e' he') h3 h4
    have e2:e.2 = e'.2:=by
     have:=hm1s e he
     rw [e1,hm1s e' he'] at this
     exact (Option.some.inj this).symm
    show (kap L nb g e.1 e.2.gen).1 = (kap L nb g e'.1 e'.2.gen).1
    rw [e1,e2]
   ·exact (hmix e he l2 c2 b hl' k1' k2' h4 h3).elim
   ·exact (hmix e' he' l1 c1 b hl k1 k2 h3 h4).elim
   ·rw [(hout l1 hl).1] at h3
    rw [(hout l2 hl').1] at h4
    exact hw.inj l1 l2 c1 c2 b k1 k1' h3 h4
  ·rcases hcase l c hc with ⟨e,he,rfl,rfl⟩ | ⟨hl,k1,k2,k3⟩
   ·rw [(hin e he).2] at hb
    obtain ⟨q1,q2,q3⟩:=hw1.own e.1 e.2 b (hm1s e he) hb
    refine ⟨q1,fun hI=>q2 (hIw b hI),?_⟩
    rcases q3 with q3 | q3
    ·exact hWs0 b q3
    ·exact .inr (Nat.le_trans hw.size q3)
   ·rw [(hout l hl).1] at hb
    obtain ⟨q1,q2,q3⟩:=hw.own l c b k1 hb
    refine ⟨Nat.lt_of_lt_of_le q1 hw1.size,?_,q3⟩
    rintro (⟨_,hI⟩ | ⟨hkf,hI⟩)
    ·exact q2 hI
    ·rcases (hw1.imm b hI).2 with hI | hI | hI
     ·rcases hI with hI | ⟨t,ht,ct,hct,hbt⟩
      ·exact q2 hI
      ·obtain rfl:=hw.inj l t c ct b k1 hct hb hbt
       exact k3 hkf ht
     ·exact hWs l c b k1 k2 hb hI
     ·have h5:C.w.heap.size ≤ b:=hI
      omega
  ·have hsz:=(hw1.imm k (hIw k hk)).1
   refine ⟨hsz,?_⟩
   rcases hk with ⟨_,hk⟩ | ⟨_,hk⟩
   ·exact (hw.imm k hk).2
   ·rcases (hw1.imm k hk).2 with hI | hI | hI
    ·rcases hI with hI | ⟨t,ht,ct,hct,hbt⟩
     ·exact (hw.imm k hI).2
     ·exact .inr ((hw.own t ct k hct hbt).2.2)
    ·exact .inr (hWs0 k hI)
    ·exact .inr (.inr (Nat.le_trans hw.size hI))
  ·exact hle.I k (hw.imm0 k hk)
  ·rcases hcase l c hc with ⟨e,he,rfl,rfl⟩ | ⟨hl,k1,k2,k3⟩
   ·rw [JPK]
    exact (hback.at_ e.1 e.2 (Jj2 hnd he)).2.2
   ·exact .inl (hw.gens l c k1)
  ·have hks:k < C.w.heap.size:=Nat.lt_of_lt_of_le hk hw.size
   refine (hw1.block k hks (fun hex=>?_)).trans (hw.block k hk hn)
   rcases hWs0 k hex with h1 | h1
   ·exact hn h1
   ·omega
 exact hK y C' (J3q hback hgr hv1) hle hwr rfl (fun k hk=>hk)
end
end
section
open Go
structure COper where
 dst:Option Nat
 op:COp
 xs:List COpd
 guard:Option (Nat × Bool)
def quiet : COp → Bool
 | .mov | .pick | .bin _ | .eqb _ | .eqp _ | .eqa .. | .eqs .. | .not | .un _ | .convI _ | .convId | .convB | .build .. | .buildA .. | .nilc | .faddr .. | .field .. | .iaddr _ | .iaddrArr .. | .idx .. | .idxS
 | .slice .. | .sliceArr .. | .sliceStr .. | .len | .lenS | .ext _ | .mx | .mn=>true
 | _=>false
def fresh : COp → Bool
 | .alloc _ | .box | .bslice .. | .slice0 _ | .mk .. | .mkmap ..=>true
 | _=>false
def looker : COp → Bool
 | .load .. | .convS | .mlook .. | .mlen=>true
 | _=>false
def refs (vals:List AV) : List Nat := vals.filterMap refOf
def reads (op:COp) (vals:List AV) : List Nat := if quiet op || fresh op then [] else refs vals
theorem JWH {op:COp} (h:(quiet op || fresh op) = true) (vals:List AV) (m m':Nat → Option Loc) (g d:Nat) : step op vals m' g d = step op vals m g d := by
 cases op <;> first | rfl | (simp [quiet,fresh] at h)
theorem JV0 {op:COp} (h:(quiet op || looker op) = true) {vals:List AV} {m:Nat → Option Loc} {g d:Nat} {av:AV} {us:List (Nat × Option Loc)} (hs:step op vals m g d = some (av,us)) : us = [] := by
 cases op <;> first | (simp [quiet,looker] at h; done) | skip
 all_goals
  simp only [step] at hs
  repeat' (first | (split at hs) | (cases hs; done))
  all_goals first
   | (cases hs; done)
   | (simp only [Option.map_eq_some_iff,Option.bind_eq_some_iff,Prod.mk.injEq,Option.some.injEq] at hs; grind)
theorem JVv {m m':Nat → Option Loc} {p:AV} (h:∀ l,refOf p = some l → m' l = m l) : deref m' p = deref m p := by
 cases p <;> first | rfl | (simp only [deref,h _ rfl])
theorem JAl {m m':Nat → Option Loc} {sz:Nat} {p:AV} (h:∀ l,refOf p = some l → m' l = m l) : srcA m' sz p = srcA m sz p := by
 unfold srcA
 split <;> first | rfl | (simp only [h _ rfl])
theorem JGz {m m':Nat → Option Loc} {d sz:Nat} {p:AV} (h:∀ l,refOf p = some l → m' l = m l) : destA m' d sz p = destA m d sz p := by
 unfold destA
 split <;> first | rfl | (simp only [h _ rfl])
theorem JT8 {m m':Nat → Option Loc} {d sz:Nat} {p:AV} {ys:List AV} (h:∀ l,refOf p = some l → m' l = m l) : destV m' d sz p ys = destV m d sz p ys := by
 unfold destV
 split
 ·rw [JAl h]
 ·exact JGz h
theorem JNG {m m':Nat → Option Loc} {sz:Nat} {p:AV} {ys:List AV} (h:∀ l,refOf p = some l → m' l = m l) : overA m' sz p ys = overA m sz p ys := by
 cases p <;> first | rfl | (simp only [overA,h _ rfl])
theorem JSk {m m':Nat → Option Loc} {agg:Bool} {sz:Nat} {p v:AV} (h:∀ l,refOf p = some l → m' l = m l) : storeA m' agg sz p v = storeA m agg sz p v := by
 cases p <;> first | rfl | (simp only [storeA,h _ rfl])
theorem J1f {vals:List AV} {p:AV} {l:Nat} (hp:p ∈ vals) (h:refOf p = some l) : l ∈ refs vals := List.mem_filterMap.2 ⟨p,hp,h⟩
theorem JWD {op:COp} {vals:List AV} {m m':Nat → Option Loc} {g d:Nat} (h:∀ l ∈ reads op vals,m' l = m l) : step op vals m' g d = step op vals m g d := by
 by_cases hq:(quiet op || fresh op) = true
 ·exact JWH hq vals m m' g d
 ·simp only [reads,hq] at h
  have hr:∀ p ∈ vals,∀ l,refOf p = some l → m' l = m l:=fun p hp l hl=>h l (J1f hp hl)
  cases op <;> first | rfl | (simp [quiet,fresh] at hq; done) | skip
  all_goals
   simp only [step]
   split <;> first | rfl | skip
  all_goals first
   | (rename_i a; simp only [loadA,JVv (hr a (by simp))]; done)
   | (rename_i a b; simp only [JSk (hr a (by simp))]; done)
   | (rename_i a; simp only [JAl (hr a (by simp))]; done)
   | (rename_i l g' n; simp only [hr (.row l 1 g' 0 n) List.mem_cons_self l rfl]; done)
   | (rename_i a b; simp only [JT8 (hr a (by simp)),JAl (hr b (by simp))]; done)
   | (rename_i a b; simp only [JGz (hr a (by simp))]; done)
   | (rename_i a b; simp only [JAl (hr b (by simp)),JNG (hr a (by simp))]; done)
   | (rename_i a b c; simp only [JGz (hr a (by simp))]; done)
   | (rename_i a; simp only [JNG (hr a (by simp))]; done)
   | (rename_i l g' k; simp only [lookA,hr (.oref l g' true) List.mem_cons_self l rfl]; done)
   | (rename_i l g' k; simp only [delM,hr (.oref l g' true) List.mem_cons_self l rfl]; done)
   | (rename_i l g' k v; simp only [putM,hr (.oref l g' true) List.mem_cons_self l rfl]; done)
   | (rename_i l g'; simp only [lenM,hr (.oref l g' true) List.mem_cons_self l rfl]; done)
   | (rename_i l g'; simp only [clearM,hr (.oref l g' true) List.mem_cons_self l rfl]; done)
   | (rename_i l g'; simp only [rangeM,hr (.oref l g' true) List.mem_cons_self l rfl]; done)
end
section
open Go
abbrev AS := (Nat → Option AV) × (Nat → Option Loc)
def wantV (fr:Nat → Option AV) : Option (Nat × Bool) → Option Bool
 | none=>some true
 | some (t,b)=>match fr t with
   | some (.v (.bool x))=>some (x == b)
   | some (.tup [])=>some false
   | _=>none
def nameSrcs (L:Names) : List Nat := L.filterMap fun e => match e.2 with | some (l,_) => some l | none => none
def nbOf (d:Nat) : Nat := 1000000 + 10000 * d
def OpE (P:Program) (G:Nat → Option AV) (g:Nat) (op:COp) (d:Nat) (vals:List AV) (m:Nat → Option Loc) (av:AV) (us:List (Nat × Option Loc)) (rd:List Nat) : Prop :=
 match op with
 | .call f=>∃ L args M keep res M' T,CallOk P G f vals m g (nbOf d) L args M keep res M' T ∧ av = renA L (nbOf d) g res ∧ us = callUs (nbOf d) g L M keep M' T ∧ rd = T ++ nameSrcs L
 | op=>step op vals m g d = some (av,us) ∧ rd = reads op vals
def OpR (P:Program) (G:Nat → Option AV) (g:Nat) (c:COper) (s:AS) (av:AV) (us:List (Nat × Option Loc)) (rd:List Nat) : Prop :=
 (wantV s.1 c.guard = some false ∧ av = .tup [] ∧ us = [] ∧ rd = []) ∨
 (wantV s.1 c.guard = some true ∧ ∃ vals,evs G s.1 c.xs = some vals ∧ OpE P G g c.op (c.dst.getD 0) vals s.2 av us rd)
def setd (fr:Nat → Option AV) (dst:Option Nat) (av:AV) : Nat → Option AV :=
 match dst with
 | none=>fr
 | some d=>upd fr d (some av)
def AS.after (s:AS) (c:COper) (av:AV) (us:List (Nat × Option Loc)) : AS := (setd s.1 c.dst av,ups s.2 us)
abbrev Log := List (Nat × List Nat × List Nat)
def RunL (P:Program) (G:Nat → Option AV) (clk:Nat) : List (Nat × COper) → AS → Log → AS → Prop
 | [],s,lg,s'=>lg = [] ∧ s' = s
 | (i,c) :: r,s,lg,s'=>∃ av us rd lg',OpR P G (clk + i) c s av us rd ∧ lg = (i,rd,us.map (·.1)) :: lg' ∧ RunL P G clk r (s.after c av us) lg' s'
def COpd.slot : COpd → Option Nat
 | .t n=>some n
 | _=>none
def COper.looks (c:COper) : List Nat := c.xs.filterMap COpd.slot ++ (match c.guard with | some (t,_)=>[t] | none=>[])
theorem JTG {G fr fr':Nat → Option AV} : ∀ {xs:List COpd},(∀ t ∈ xs.filterMap COpd.slot,fr' t = fr t) → evs G fr' xs = evs G fr xs
 | [],_=>rfl
 | x :: xs,h=>by
   have h1:ev G fr' x = ev G fr x:=by
    cases x with
    | t n=>exact h n (List.mem_filterMap.2 ⟨.t n,List.mem_cons_self,rfl⟩)
    | c x=>rfl
    | g n=>rfl
   have h2:evs G fr' xs = evs G fr xs:=JTG fun t ht=>h t (by
    obtain ⟨y,hy,e⟩:=List.mem_filterMap.1 ht
    exact List.mem_filterMap.2 ⟨y,List.mem_cons_of_mem _ hy,e⟩)
   simp only [evs,h1,h2]
section
variable {P:Program} {G:Nat → Option AV}
mutual
theorem JG5 {m m':Nat → Option Loc} {L:Names} : ∀ (want raw:AV),(∀ l ∈ touch m raw want,m' l = m l) → Fit m L raw want → Fit m' L raw want ∧ touch m' raw want = touch m raw want
 | .top,raw,_,h=>by simp only [Fit,touch] at *; exact ⟨h,trivial⟩
 | .v x,raw,_,h=>by simp only [Fit,touch] at *; exact ⟨h,trivial⟩
 | .iptr x,raw,ht,h=>by
   simp only [Fit] at h
   split at h
   ·simp only [Fit,touch]; exact ⟨h,trivial⟩
   ·rename_i l g off
    obtain ⟨rfl,hcl,y,hm,hf⟩:=h
    simp only [touch,hm] at ht
    have hml:=ht l List.mem_cons_self
    have:=JG5 x y (fun t htt=>ht t (List.mem_cons_of_mem _ htt)) hf
    simp only [Fit,touch,hml,hm]
    exact ⟨⟨trivial,hcl,y,rfl,this.1⟩,by rw [this.2]⟩
   ·cases h
 | .ptr ..,raw,_,h=>by simp only [Fit,touch] at *; exact ⟨h,trivial⟩
 | .row ..,raw,_,h=>by simp only [Fit,touch] at *; exact ⟨h,trivial⟩
 | .vrow ..,raw,_,h=>by simp [Fit] at h
 | .rptr ..,raw,_,h=>by simp [Fit] at h
 | .oref ..,raw,_,h=>by simp only [Fit,touch] at *; exact ⟨h,trivial⟩
 | .tup _,raw,_,h=>by simp [Fit] at h
 | .node ws,raw,ht,h=>by
   simp only [Fit] at h
   split at h <;> first | (cases h; done) | skip
   simp only [Fit,touch] at *
   exact Jgk ws _ ht h
 | .arr sz ws,raw,ht,h=>by
   simp only [Fit] at h
   split at h <;> first | (cases h; done) | skip
   simp only [Fit,touch] at *
   have:=Jgk ws _ ht h.2
   exact ⟨⟨h.1,this.1⟩,this.2⟩
 | .sl sz ws,raw,ht,h=>by
   simp only [Fit] at h
   split at h
   ·simp only [Fit,touch]; exact ⟨h,trivial⟩
   ·rename_i l s g off n
    obtain ⟨rfl,xs,hm,hfit,hL⟩:=h
    simp only [touch,hm] at ht
    have hml:=ht l List.mem_cons_self
    have:=Jgk ws _ (fun t htt=>ht t (List.mem_cons_of_mem _ htt)) hL
    simp only [Fit,touch,hml,hm]
    exact ⟨⟨trivial,xs,rfl,hfit,this.1⟩,by rw [this.2]⟩
   ·rename_i l g off s n cap
    obtain ⟨rfl,y,xs,hm,he,hn,hL⟩:=h
    simp only [touch,hm,he] at ht
    have hml:=ht l List.mem_cons_self
    have:=Jgk ws _ (fun t htt=>ht t (List.mem_cons_of_mem _ htt)) hL
    simp only [Fit,touch,hml,hm,he]
    exact ⟨⟨trivial,y,xs,rfl,he,hn,this.1⟩,by rw [this.2]⟩
   ·simp only [Fit,touch]; exact ⟨h,trivial⟩
   ·cases h
theorem Jgk {m m':Nat → Option Loc} {L:Names} : ∀ (ws rs:List AV),(∀ l ∈ touchL m rs ws,m' l = m l) → FitL m L rs ws → FitL m' L rs ws ∧ touchL m' rs ws = touchL m rs ws
 | [],rs,_,h=>by simp only [FitL] at *; subst h; simp [touchL]
 | w :: ws,rs,ht,h=>by
   simp only [FitL] at h
   obtain ⟨r,rs',rfl,h1,h2⟩:=h
   simp only [touchL] at ht
   have k1:=JG5 w r (fun t htt=>ht t (List.mem_append_left _ htt)) h1
   have k2:=Jgk ws rs' (fun t htt=>ht t (List.mem_append_right _ htt)) h2
   simp only [FitL,touchL]
   exact ⟨⟨r,rs',rfl,k1.1,k2.1⟩,by rw [k1.2,k2.2]⟩
end
theorem JxX {L:Names} {k l g:Nat} (h:look L k = some (some (l,g))) : l ∈ nameSrcs L := List.mem_filterMap.2 ⟨_,Jbh h,rfl⟩
theorem JPB {m m':Nat → Option Loc} {L:Names} {T:List Nat} {k:Nat} {c:Loc} (hn:∀ l ∈ nameSrcs L,m' l = m l) (hT:∀ l ∈ T,m' l = m l) (ht:∀ t ∈ touchE m L k c,t ∈ T) (h:FitE m L k c) : FitE m' L k c ∧ touchE m' L k c = touchE m L k c := by
 cases c with
 | var g w =>
   obtain ⟨l,g1,raw,h1,h2,h3⟩:=h
   have e:=hn l (JxX h1)
   simp only [touchE,h1,h2] at ht
   have k1:=JG5 w raw (fun t htt=>hT t (ht t htt)) h3
   simp only [FitE,touchE,h1,e,h2]
   exact ⟨⟨l,g1,raw,rfl,by rw [e]; exact h2,k1.1⟩,k1.2⟩
 | rows g sz ws =>
   rcases h with ⟨l,g1,xs,h1,h2,h3⟩ | ⟨h1,h2⟩
   ·have e:=hn l (JxX h1)
    simp only [touchE,h1,h2] at ht
    have k1:=Jgk ws xs (fun t htt=>hT t (ht t htt)) h3
    simp only [FitE,touchE,h1,e,h2]
    exact ⟨.inl ⟨l,g1,xs,rfl,by rw [e]; exact h2,k1.1⟩,k1.2⟩
   ·simp only [FitE,touchE,h1]
    exact ⟨.inr ⟨trivial,h2⟩,trivial⟩
 | ob g q w =>
   obtain ⟨l,g1,raw,h1,h2,h3⟩:=h
   have e:=hn l (JxX h1)
   simp only [touchE,h1,h2] at ht
   have k1:=JG5 w raw (fun t htt=>hT t (ht t htt)) h3
   simp only [FitE,touchE,h1,e,h2]
   exact ⟨⟨l,g1,raw,rfl,by rw [e]; exact h2,k1.1⟩,k1.2⟩
theorem CallOk.local {f g nb:Nat} {vals:List AV} {m m':Nat → Option Loc} {L:Names} {args:List AV} {M:List (Nat × Loc)} {keep:Bool} {res:AV} {M':List (Nat × Loc)} {T:List Nat}
 (h:CallOk P G f vals m g nb L args M keep res M' T) (hl:∀ l ∈ T ++ nameSrcs L,m' l = m l):CallOk P G f vals m' g nb L args M keep res M' T:=by
 have hT:∀ l ∈ T,m' l = m l:=fun l h=>hl l (List.mem_append_left _ h)
 have hn:∀ l ∈ nameSrcs L,m' l = m l:=fun l h=>hl l (List.mem_append_right _ h)
 have k:=Jgk args vals (fun t htt=>hT t (h.lent t htt)) h.fit
 refine ⟨h.meets,k.1,fun t htt=>h.lent t (by rw [← k.2]; exact htt),h.st,⟨h.named.nd,fun e he=>?_,fun e he t htt=>?_,h.named.ns,h.named.apart,h.named.st⟩,h.back,h.old⟩
 ·exact (JPB hn hT (h.named.lent e he) (h.named.fit e he)).1
 ·have:=(JPB hn hT (h.named.lent e he) (h.named.fit e he)).2
  exact h.named.lent e he t (by rw [← this]; exact htt)
theorem JYK {g d:Nat} {op:COp} {vals:List AV} {m m':Nat → Option Loc} {av:AV} {us:List (Nat × Option Loc)} {rd:List Nat} (h:OpE P G g op d vals m av us rd) (hl:∀ l ∈ rd,m' l = m l) : OpE P G g op d vals m' av us rd := by
 by_cases hc:∃ f,op = .call f
 ·obtain ⟨f,rfl⟩:=hc
  obtain ⟨L,args,M,keep,res,M',T,h1,h2,h3,rfl⟩:=h
  exact ⟨L,args,M,keep,res,M',T,h1.local hl,h2,h3,rfl⟩
 ·have e:∀ m,OpE P G g op d vals m av us rd = (step op vals m g d = some (av,us) ∧ rd = reads op vals):=by
   intro m
   cases op <;> first | rfl | exact absurd ⟨_,rfl⟩ hc
  rw [e] at h ⊢
  obtain ⟨h1,rfl⟩:=h
  exact ⟨by rw [JWD hl]; exact h1,rfl⟩
theorem JRC {g:Nat} {c:COper} {s s':AS} {av:AV} {us:List (Nat × Option Loc)} {rd:List Nat} (h:OpR P G g c s av us rd) (h1:∀ t ∈ c.looks,s'.1 t = s.1 t) (h2:∀ l ∈ rd,s'.2 l = s.2 l) : OpR P G g c s' av us rd := by
 have hw:wantV s'.1 c.guard = wantV s.1 c.guard:=by
  unfold COper.looks at h1
  cases hg:c.guard with
  | none=>rfl
  | some q =>
    obtain ⟨t,b⟩:=q
    rw [hg] at h1
    simp only [wantV]
    rw [h1 t (List.mem_append_right _ (by simp))]
 have he:evs G s'.1 c.xs = evs G s.1 c.xs:=JTG fun t ht=>h1 t (List.mem_append_left _ ht)
 rcases h with ⟨k1,k2⟩ | ⟨k1,vals,k2,k3⟩
 ·exact .inl ⟨hw.trans k1,k2⟩
 ·exact .inr ⟨hw.trans k1,vals,he.trans k2,JYK k3 h2⟩
def slotsApart (x y:COper) : Prop := (∀ d,x.dst = some d → d ∉ y.looks ∧ y.dst ≠ some d) ∧ (∀ d,y.dst = some d → d ∉ x.looks)
def memApart (x y:List Nat × List Nat) : Prop := (∀ l ∈ x.2,l ∉ y.1 ∧ l ∉ y.2) ∧ (∀ l ∈ y.2,l ∉ x.1)
theorem J1l : ∀ (us vs:List (Nat × Option Loc)) (m:Nat → Option Loc),(∀ l ∈ us.map (·.1),l ∉ vs.map (·.1)) → ups (ups m us) vs = ups (ups m vs) us := by
 intro us vs m h
 funext l
 by_cases hu:l ∈ us.map (·.1)
 ·rw [Jev vs _ (h l hu)]
  have key:∀ (us:List (Nat × Option Loc)) (m m':Nat → Option Loc),m l = m' l → ups m us l = ups m' us l:=by
   intro us
   induction us with
   | nil=>intro m m' e; exact e
   | cons p us ih =>
     intro m m' e
     obtain ⟨k,c⟩:=p
     simp only [ups]
     refine ih _ _ ?_
     by_cases hk:l = k
     ·subst hk; simp
     ·simp [Jx _ _ hk,e]
  exact key us _ _ (Jev vs m (h l hu)).symm
 ·rw [Jev us _ hu]
  have key:∀ (vs:List (Nat × Option Loc)) (m m':Nat → Option Loc),m l = m' l → ups m vs l = ups m' vs l:=by
   intro us
   induction us with
   | nil=>intro m m' e; exact e
   | cons p us ih =>
     intro m m' e
     obtain ⟨k,c⟩:=p
     simp only [ups]
     refine ih _ _ ?_
     by_cases hk:l = k
     ·subst hk; simp
     ·simp [Jx _ _ hk,e]
  exact key vs _ _ (Jev us m hu)
theorem JPR {fr:Nat → Option AV} {dst:Option Nat} {av:AV} {t:Nat} (h:dst ≠ some t) : setd fr dst av t = fr t := by
 cases dst with
 | none=>rfl
 | some d=>simp only [setd]; exact Jx _ _ (fun e=>h (by rw [e]))
theorem JWL {x y:COper} {s:AS} {a b:AV} {us vs:List (Nat × Option Loc)} (hd:∀ d,x.dst = some d → y.dst ≠ some d) (hu:∀ l ∈ us.map (·.1),l ∉ vs.map (·.1)) :
 (s.after x a us).after y b vs = (s.after y b vs).after x a us:=by
 unfold AS.after
 simp only
 rw [J1l us vs s.2 hu]
 congr 1
 funext t
 cases hx:x.dst with
 | none=>rfl
 | some d =>
   cases hy:y.dst with
   | none=>rfl
   | some e =>
     have hne:d ≠ e:=fun h=>hd d hx (by rw [hy,h])
     simp only [setd,upd]
     by_cases h1:t = d <;> by_cases h2:t = e <;> simp_all
theorem JZI {clk i j:Nat} {x y:COper} {r:List (Nat × COper)} {s s':AS} {a b:List Nat × List Nat} {lg:Log} (h:RunL P G clk ((i,x) :: (j,y) :: r) s ((i,a) :: (j,b) :: lg) s') (hs:slotsApart x y) (hm:memApart a b) :
 RunL P G clk ((j,y) :: (i,x) :: r) s ((j,b) :: (i,a) :: lg) s':=by
 obtain ⟨av,us,rd,lg1,h1,e1,av2,us2,rd2,lg2,h2,e2,h3⟩:=h
 simp only [List.cons.injEq,Prod.mk.injEq,true_and] at e1
 obtain ⟨rfl,rfl⟩:=e1
 simp only [List.cons.injEq,Prod.mk.injEq,true_and] at e2
 obtain ⟨rfl,rfl⟩:=e2
 have hy:OpR P G (clk + j) y s av2 us2 rd2:=JRC h2 (fun t ht=>by
  unfold AS.after
  refine (JPR (fun e=>?_)).symm
  exact (hs.1 t e).1 ht) (fun l hl=>(Jev us s.2 (fun hmem=>(hm.1 l hmem).1 hl)).symm)
 have hx:OpR P G (clk + i) x (s.after y av2 us2) av us rd:=JRC h1 (fun t ht=>by
  unfold AS.after
  refine JPR (fun e=>?_)
  exact hs.2 t e ht) (fun l hl=>Jev us2 s.2 (fun hmem=>hm.2 l hmem hl))
 refine ⟨av2,us2,rd2,_,hy,rfl,av,us,rd,_,hx,rfl,?_⟩
 rw [← JWL (fun d hd=>(hs.1 d hd).2) (fun l hl=>(hm.1 l hl).2)]
 exact h3
theorem JPI {clk i:Nat} {x:COper} {r:List (Nat × COper)} : ∀ {A:List (Nat × COper)} {s s':AS} {lg:Log},RunL P G clk (A ++ (i,x) :: r) s lg s' →
 (∀ a ∈ A,slotsApart a.2 x ∧ ∀ ea ∈ lg,∀ ex ∈ lg,ea.1 = a.1 → ex.1 = i → memApart ea.2 ex.2) →
 ∃ ex lg',RunL P G clk ((i,x) :: (A ++ r)) s ((i,ex) :: lg') s' ∧ (i,ex) ∈ lg ∧ ∀ e ∈ lg',e ∈ lg
 | [],s,s',lg,h,_=>by
   obtain ⟨av,us,rd,lg1,h1,rfl,h3⟩:=h
   exact ⟨_,lg1,⟨av,us,rd,lg1,h1,rfl,h3⟩,List.mem_cons_self,fun e he=>List.mem_cons_of_mem _ he⟩
 | (j,y) :: A,s,s',lg,h,hap=>by
   obtain ⟨av,us,rd,lg1,h1,rfl,h3⟩:=h
   obtain ⟨ex,lg',k1,k2,k3⟩:=JPI (A:=A) h3 (fun a ha=>⟨(hap a (List.mem_cons_of_mem _ ha)).1,fun ea hea e2 he2 q1 q2=>(hap a (List.mem_cons_of_mem _ ha)).2 ea (List.mem_cons_of_mem _ hea) e2 (List.mem_cons_of_mem _ he2) q1 q2⟩)
   obtain ⟨hsl,hme⟩:=hap (j,y) List.mem_cons_self
   have hm:=hme (j,rd,us.map (·.1)) List.mem_cons_self (i,ex) (List.mem_cons_of_mem _ k2) rfl rfl
   refine ⟨ex,(j,rd,us.map (·.1)) :: lg',JZI ⟨av,us,rd,_,h1,rfl,k1⟩ hsl hm,List.mem_cons_of_mem _ k2,fun e he=>?_⟩
   rcases List.mem_cons.1 he with rfl | he
   ·exact List.mem_cons_self
   ·exact List.mem_cons_of_mem _ (k3 e he)
end
end
section
open Go
theorem ok_all {P:Program} {w0:World} {Ws I0:Nat → Prop} {C:Ctx} {G fr:Nat → Option AV} {g d:Nat} {o:Oper} {a:Act} {av:AV} {xs:List COpd} {vals:List AV} {us:List (Nat × Option Loc)} :
 ∀ {c:COp},chkOp P o.op xs c = true → evs G fr xs = some vals → FR C fr a → GR C G → WR w0 Ws I0 C → ¬ C.used g → step c vals C.m g d = some (av,us) → Does P w0 Ws I0 C g o a av us
 | .mov,hc,hev,hf,hG,hw,hn,hs=>J6f hc hev hf hG hw hn hs
 | .pick,hc,hev,hf,hG,hw,hn,hs=>J3F hc hev hf hG hw hn hs
 | .bin _,hc,hev,hf,hG,hw,hn,hs=>J6M hc hev hf hG hw hn hs
 | .eqb _,hc,hev,hf,hG,hw,hn,hs=>J6b hc hev hf hG hw hn hs
 | .eqp _,hc,hev,hf,hG,hw,hn,hs=>J7h hc hev hf hG hw hn hs
 | .eqa ..,hc,hev,hf,hG,hw,hn,hs=>J7y hc hev hf hG hw hn hs
 | .eqs ..,hc,hev,hf,hG,hw,hn,hs=>J69 hc hev hf hG hw hn hs
 | .not,hc,hev,hf,hG,hw,hn,hs=>J7G hc hev hf hG hw hn hs
 | .un _,hc,hev,hf,hG,hw,hn,hs=>ok_un hc hev hf hG hw hn hs
 | .convI _,hc,hev,hf,hG,hw,hn,hs=>J1O hc hev hf hG hw hn hs
 | .convId,hc,hev,hf,hG,hw,hn,hs=>JZU hc hev hf hG hw hn hs
 | .convS,hc,hev,hf,hG,hw,hn,hs=>J0y hc hev hf hG hw hn hs
 | .convB,hc,hev,hf,hG,hw,hn,hs=>J1N hc hev hf hG hw hn hs
 | .convM,hc,hev,hf,hG,hw,hn,hs=>J0G hc hev hf hG hw hn hs
 | .alloc _,hc,hev,hf,hG,hw,hn,hs=>J0A hc hev hf hG hw hn hs
 | .box,hc,hev,hf,hG,hw,hn,hs=>J6W hc hev hf hG hw hn hs
 | .build ..,hc,hev,hf,hG,hw,hn,hs=>J0Q hc hev hf hG hw hn hs
 | .buildA ..,hc,hev,hf,hG,hw,hn,hs=>JZv hc hev hf hG hw hn hs
 | .bslice ..,hc,hev,hf,hG,hw,hn,hs=>J0h hc hev hf hG hw hn hs
 | .load ..,hc,hev,hf,hG,hw,hn,hs=>J4l hc hev hf hG hw hn hs
 | .store ..,hc,hev,hf,hG,hw,hn,hs=>J10 hc hev hf hG hw hn hs
 | .nilc,hc,hev,hf,hG,hw,hn,hs=>J3G hc hev hf hG hw hn hs
 | .faddr ..,hc,hev,hf,hG,hw,hn,hs=>J1P hc hev hf hG hw hn hs
 | .field ..,hc,hev,hf,hG,hw,hn,hs=>J1u hc hev hf hG hw hn hs
 | .iaddr _,hc,hev,hf,hG,hw,hn,hs=>J1r hc hev hf hG hw hn hs
 | .iaddrArr ..,hc,hev,hf,hG,hw,hn,hs=>JTZ hc hev hf hG hw hn hs
 | .idx ..,hc,hev,hf,hG,hw,hn,hs=>J6p hc hev hf hG hw hn hs
 | .idxS,hc,hev,hf,hG,hw,hn,hs=>J4O hc hev hf hG hw hn hs
 | .slice ..,hc,hev,hf,hG,hw,hn,hs=>J1n hc hev hf hG hw hn hs
 | .sliceArr ..,hc,hev,hf,hG,hw,hn,hs=>JTY hc hev hf hG hw hn hs
 | .sliceStr ..,hc,hev,hf,hG,hw,hn,hs=>JUt hc hev hf hG hw hn hs
 | .slice0 _,hc,hev,hf,hG,hw,hn,hs=>JZK hc hev hf hG hw hn hs
 | .len,hc,hev,hf,hG,hw,hn,hs=>J60 hc hev hf hG hw hn hs
 | .lenS,hc,hev,hf,hG,hw,hn,hs=>J46 hc hev hf hG hw hn hs
 | .app ..,hc,hev,hf,hG,hw,hn,hs=>J54 hc hev hf hG hw hn hs
 | .appS _,hc,hev,hf,hG,hw,hn,hs=>J3Q hc hev hf hG hw hn hs
 | .appM ..,hc,hev,hf,hG,hw,hn,hs=>J3N hc hev hf hG hw hn hs
 | .copy _,hc,hev,hf,hG,hw,hn,hs=>J3w hc hev hf hG hw hn hs
 | .clear ..,hc,hev,hf,hG,hw,hn,hs=>J0L hc hev hf hG hw hn hs
 | .mk ..,hc,hev,hf,hG,hw,hn,hs=>ok_mk hc hev hf hG hw hn hs
 | .ext _,hc,hev,hf,hG,hw,hn,hs=>J6x hc hev hf hG hw hn hs
 | .mx,hc,hev,hf,hG,hw,hn,hs=>ok_mx hc hev hf hG hw hn hs
 | .mn,hc,hev,hf,hG,hw,hn,hs=>ok_mn hc hev hf hG hw hn hs
 | .mkmap ..,hc,hev,hf,hG,hw,hn,hs=>J03 hc hev hf hG hw hn hs
 | .mlook ..,hc,hev,hf,hG,hw,hn,hs=>J04 hc hev hf hG hw hn hs
 | .mput _,hc,hev,hf,hG,hw,hn,hs=>J41 hc hev hf hG hw hn hs
 | .mdel _,hc,hev,hf,hG,hw,hn,hs=>J3L hc hev hf hG hw hn hs
 | .mlen,hc,hev,hf,hG,hw,hn,hs=>J4F hc hev hf hG hw hn hs
 | .mclear,hc,hev,hf,hG,hw,hn,hs=>JZM hc hev hf hG hw hn hs
 | .mrange,hc,hev,hf,hG,hw,hn,hs=>JZY hc hev hf hG hw hn hs
 | .call _,_,_,_,_,_,_,hs=>by cases hs
def chkOper (P:Program) (ops:Array Oper) (N:Nat) (o:Oper) (c:COper) : Bool :=
 o.dst == c.dst && chkOp P o.op c.xs c.op && (match c.dst with | some d=>decide (d < N) | none=>true) &&
  (match o.guard,c.guard with | none,none=>true | some (j,b),some (t,b')=>(ops[j]?).bind (·.dst) == some t && b == b' | _,_=>false)
def chkList (P:Program) (ops:Array Oper) (N:Nat) : List Oper → List COper → Bool
 | [],[]=>true
 | o :: os,c :: cs=>chkOper P ops N o c && chkList P ops N os cs
 | _,_=>false
structure Mid (w0:World) (Ws I0:Nat → Prop) (G:Nat → Option AV) (C0:Ctx) (N clk top:Nat) (rem:List Nat) (s:AS) (a:Act) (C:Ctx) : Prop where
 wr:WR w0 Ws I0 C
 m:C.m = s.2
 fr:FR C s.1 a
 gr:GR C G
 le:C0.Le C
 size:a.tmps.size = N
 defers:a.defers = []
 fresh:∀ i ∈ rem,¬ C.used (clk + i)
 top:∀ k,C.used k → k < top
 one:¬ C.used 1
section
variable {P:Program} {w0:World} {Ws I0:Nat → Prop} {G:Nat → Option AV} {C0 C:Ctx} {N clk top:Nat} {rem:List Nat} {s:AS} {a:Act} {ops:Array Oper}
theorem JY3 {b:Bool} {y:Value} (h:SV C (.v (.bool b)) y) : y = .bool b := SV_v h
theorem JSF {o:Oper} {c:COper} (hf:FR C s.1 a) (hc:chkOper P ops N o c = true) {b:Bool} (hw:wantV s.1 c.guard = some b) : Region.wanted o (yielded ops a.tmps) = b := by
 simp only [chkOper,Bool.and_eq_true] at hc
 obtain ⟨_,hg⟩:=hc
 unfold Region.wanted
 split at hg
 ·rename_i h1 h2
  rw [h2] at hw
  simp only [wantV,Option.some.injEq] at hw
  simp [h1,hw]
 ·rename_i j b1 t b2 h1 h2
  simp only [Bool.and_eq_true,beq_iff_eq] at hg
  obtain ⟨hg,rfl⟩:=hg
  rw [h2] at hw
  simp only [wantV] at hw
  split at hw
  ·rename_i x hx
   simp only [Option.some.injEq] at hw
   obtain ⟨y,hy,hv⟩:=hf t _ hx
   rw [JY3 hv] at hy
   rw [h1]
   simp only [yielded,hg,Option.bind_some,hy]
   subst hw
   cases x <;> cases b1 <;> rfl
  ·rename_i hx
   simp only [Option.some.injEq] at hw
   obtain ⟨y,hy,hv⟩:=hf t _ hx
   have hv':∃ xs,y = .tuple xs ∧ SVs C [] xs.toList:=hv
   obtain ⟨xs,rfl,_⟩:=hv'
   rw [h1]
   simp only [yielded,hg,Option.bind_some,hy]
   subst hw
   cases b1 <;> rfl
  ·cases hw
 ·cases hg
theorem JYP {C':Ctx} {c:COper} {av:AV} {y:Value} (hle:C.Le C') (hf:FR C s.1 a) (hd:(match c.dst with | some d=>decide (d < N) | none=>true) = true) (hN:a.tmps.size = N) (hv:SV C' av y) :
 FR C' (setd s.1 c.dst av) (a.put c.dst y):=by
 have hf':=hf.mono hle
 cases hc:c.dst with
 | none=>exact hf'
 | some d =>
   rw [hc] at hd
   simp only [decide_eq_true_eq] at hd
   intro t x hx
   simp only [setd] at hx
   simp only [Act.put]
   by_cases e:t = d
   ·subst e
    simp only [JU,Option.some.injEq] at hx
    subst hx
    exact ⟨y,by simp [hN,hd],hv⟩
   ·rw [Jx _ _ e] at hx
    obtain ⟨z,h1,h2⟩:=hf' t x hx
    refine ⟨z,?_,h2⟩
    rw [Array.getElem?_setIfInBounds_ne (fun h=>e h.symm)]
    exact h1
theorem JQk (a:Act) (d:Option Nat) (y:Value) : (a.put d y).tmps.size = a.tmps.size := by cases d <;> simp [Act.put]
theorem JLt (a:Act) (d:Option Nat) (y:Value) : (a.put d y).defers = a.defers := by cases d <;> rfl
theorem JNL {i:Nat} {o:Oper} {c:COper} {av:AV} {us:List (Nat × Option Loc)} {rd:List Nat} {Q:Exit → Act → World → Prop} {K:Act → World → Prop} (ho:ops[i]? = some o) (hc:chkOper P ops N o c = true) (hnd:rem.Nodup) (hi:i ∈ rem) (htop:clk + i < top) (hone:clk + i ≠ 1)
 (hm:Mid w0 Ws I0 G C0 N clk top rem s a C) (h:OpR P G (clk + i) c s av us rd) (hK:∀ a' C',Mid w0 Ws I0 G C0 N clk top (rem.erase i) (s.after c av us) a' C' → K a' C'.w):wpOp P ops Q i K a C.w:=by
 unfold wpOp
 rw [ho]
 simp only
 have hc':=hc
 simp only [chkOper,Bool.and_eq_true,beq_iff_eq] at hc'
 obtain ⟨⟨⟨hdst,hop⟩,hdN⟩,_⟩:=hc'
 rcases h with ⟨k1,rfl,rfl,rfl⟩ | ⟨k1,vals,k2,k3⟩
 ·rw [JSF hm.fr hc k1,if_neg (by simp)]
  refine hK _ C ⟨hm.wr,hm.m,?_,hm.gr,hm.le,by rw [JQk]; exact hm.size,by rw [JLt]; exact hm.defers,fun j hj=>hm.fresh j (List.mem_of_mem_erase hj),hm.top,hm.one⟩
  rw [hdst]
  exact JYP (Ctx.Le.refl C) hm.fr hdN hm.size (show SV C (.tup []) undef from ⟨#[],rfl,rfl⟩)
 ·rw [JSF hm.fr hc k1,if_pos rfl]
  left
  have hsim:Sim P w0 Ws I0 C (clk + i) o a av us:=by
   by_cases hcall:∃ f,c.op = .call f
   ·obtain ⟨f,hcf⟩:=hcall
    rw [hcf] at k3 hop
    obtain ⟨L,args,M,keep,res,M',T,h1,rfl,rfl,rfl⟩:=k3
    rw [← hm.m] at h1
    refine J01 hm.wr hm.gr (hm.fresh i hi) h1 hop ?_
    have hop':=hop
    simp only [chkOp] at hop'
    split at hop' <;> first | (cases hop'; done) | skip
    rename_i f0 cargs cat heq
    simp only [Bool.and_eq_true] at hop'
    rw [heq]
    exact Ju hm.fr hm.gr hop'.2 k2
   ·have e:step c.op vals s.2 (clk + i) (c.dst.getD 0) = some (av,us):=by
     revert k3
     cases hq:c.op <;> first | exact fun k3=>k3.1 | exact absurd ⟨_,hq⟩ hcall
    rw [← hm.m] at e
    exact (ok_all hop k2 hm.fr hm.gr hm.wr (hm.fresh i hi) e).sim
  refine hsim K Q fun y C' hv hle hwr hcm hu=>?_
  refine hK _ C' ⟨hwr,by rw [hcm,hm.m]; rfl,?_,hm.gr.mono hle,hm.le.trans hle,by rw [JQk]; exact hm.size,by rw [JLt]; exact hm.defers,fun j hj hu'=>?_,fun k hk=>?_,fun h1=>?_⟩
  ·rw [hdst]
   exact JYP hle hm.fr hdN hm.size hv
  ·have hne:j ≠ i:=fun e=>by
    subst e
    exact (List.Nodup.not_mem_erase hnd) hj
   rcases hu _ hu' with hu' | hu'
   ·exact hm.fresh j (List.mem_of_mem_erase hj) hu'
   ·omega
  ·rcases hu k hk with hk | hk
   ·exact hm.top k hk
   ·omega
  ·rcases hu 1 h1 with h1 | h1
   ·exact hm.one h1
   ·omega
theorem Jbj : ∀ {os:List Oper} {cs:List COper} {i:Nat},chkList P ops N os cs = true → os.length = cs.length ∧ ∀ o c,os[i]? = some o → cs[i]? = some c → chkOper P ops N o c = true
 | [],[],i,_=>by simp
 | o :: os,c :: cs,i,h=>by
   simp only [chkList,Bool.and_eq_true] at h
   refine ⟨by simpa using (Jbj (i:=0) h.2).1,fun o' c' h1 h2=>?_⟩
   cases i with
   | zero=>simp only [List.getElem?_cons_zero,Option.some.injEq] at h1 h2; subst h1 h2; exact h.1
   | succ i=>exact (Jbj (i:=i) h.2).2 o' c' (by simpa using h1) (by simpa using h2)
 | [],_ :: _,_,h=>by simp [chkList] at h
 | _ :: _,[],_,h=>by simp [chkList] at h
def num : Nat → List COper → List (Nat × COper)
 | _,[]=>[]
 | i,c :: cs=>(i,c) :: num (i + 1) cs
theorem JLf : ∀ (i:Nat) (cs:List COper),(num i cs).map (·.1) = List.range' i cs.length
 | _,[]=>rfl
 | i,c :: cs=>by simp [num,JLf (i + 1) cs,List.range'_succ]
theorem JK7 : ∀ {i:Nat} {cs:List COper} {p:Nat × COper},p ∈ num i cs → i ≤ p.1 ∧ cs[p.1 - i]? = some p.2
 | _,[],_,h=>by cases h
 | i,c :: cs,p,h=>by
   rcases List.mem_cons.1 h with rfl | h
   ·simp
   ·obtain ⟨h1,h2⟩:=JK7 h
    refine ⟨by omega,?_⟩
    rw [show p.1 - i = (p.1 - (i + 1)) + 1 by omega,List.getElem?_cons_succ]
    exact h2
theorem JWd {L:List (Nat × COper)} {Q:Exit → Act → World → Prop} (hops:∀ i c,(i,c) ∈ L → ∃ o,ops[i]? = some o ∧ chkOper P ops N o c = true ∧ clk + i < top ∧ clk + i ≠ 1) (hnd:(L.map (·.1)).Nodup) {s':AS} {lg:Log}
 (hm:Mid w0 Ws I0 G C0 N clk top (L.map (·.1)) s a C) (h:RunL P G clk L s lg s') (hQ:∀ a' C',Mid w0 Ws I0 G C0 N clk top [] s' a' C' → Q .normal a' C'.w):wpOps P ops Q (L.map (·.1)) a C.w:=by
 induction L generalizing s a C lg with
 | nil =>
   obtain ⟨_,rfl⟩:=h
   exact hQ a C hm
 | cons p L ih =>
   obtain ⟨i,c⟩:=p
   obtain ⟨av,us,rd,lg',h1,_,h3⟩:=h
   obtain ⟨o,ho,hc,ht,h1'⟩:=hops i c List.mem_cons_self
   simp only [List.map_cons] at *
   rw [wpOps_cons]
   refine JNL ho hc hnd List.mem_cons_self ht h1' hm h1 fun a' C' hm'=>?_
   rw [List.erase_cons_head] at hm'
   exact ih (fun j c hj=>hops j c (List.mem_cons_of_mem _ hj)) (List.nodup_cons.1 hnd).2 hm' h3
end
def bornOf (e:AV) : Option Int := match entB e with
 | .v (.int .i64 n)=>some n
 | _=>none
def findB (b:Int) : List AV → Option AV
 | []=>none
 | e :: es=>if bornOf e = some b then some e else findB b es
inductive HOp where
 | next | entry
def headW (h:HOp) (m:Nat → Option Loc) (it gi:Nat) (K:AV → List (Nat × Option Loc) → Prop) : Prop :=
 ∃ (l g:Nat) (a b:Int) (seen:List AV) (ns:List Int) (ka:Bool) (ks:Nat) (va:Bool) (vs:Nat) (es:List AV) (c:Int),
  m it = some (.ob gi .iter (.node [.oref l g true,.v (.int .i64 a),.v (.int .i64 b),.node seen])) ∧ intsOf .i64 seen = some ns ∧
  m l = some (.ob g (.map ka ks va vs) (.node [.node es,.v (.int .i64 c)])) ∧ allEnt ks vs es = true ∧
  (match h with
   | .next=>a ≤ b ∧ (∀ e ∈ es,∃ n,bornOf e = some n ∧ n < a) ∧ ((∀ e ∈ es,∃ n ∈ ns,bornOf e = some n) → K (.tup [.v (.bool false)]) []) ∧
    (∀ (e:AV) (n:Int),e ∈ es → bornOf e = some n → n ∉ ns → K (.tup [.v (.bool true),.top,.top]) [(it,some (.ob gi .iter (.node [.oref l g true,.v (.int .i64 a),.v (.int .i64 c),.node (seen ++ [entB e])])))])
   | .entry=>c = b ∧ (∀ e ∈ es,∃ n,bornOf e = some n) ∧ ∃ (n:Int) (e:AV),ns.getLast? = some n ∧ findB n es = some e ∧ (entK e).isAgg = ka ∧ (entV e).isAgg = va ∧ aggOk ka ks = true ∧ aggOk va vs = true ∧ K (.tup [entK e,entV e]) [])
theorem JPZ {h:HOp} {m:Nat → Option Loc} {it gi:Nat} {K K':AV → List (Nat × Option Loc) → Prop} (hk:∀ a b,K a b → K' a b) (hh:headW h m it gi K) : headW h m it gi K' := by
 obtain ⟨l,g,a,b,seen,ns,ka,ks,va,vs,es,c,h1,h2,h3,h4,h5⟩:=hh
 refine ⟨l,g,a,b,seen,ns,ka,ks,va,vs,es,c,h1,h2,h3,h4,?_⟩
 cases h with
 | next =>
   obtain ⟨k1,k2,k3,k4⟩:=h5
   exact ⟨k1,k2,fun q=>hk _ _ (k3 q),fun e n q1 q2 q3=>hk _ _ (k4 e n q1 q2 q3)⟩
 | entry =>
   obtain ⟨k1,k0,n,e,k2,k3,k4,k5,k6,k7,k8⟩:=h5
   exact ⟨k1,k0,n,e,k2,k3,k4,k5,k6,k7,hk _ _ k8⟩
section
variable {P:Program} {w0:World} {Ws I0:Nat → Prop} {C:Ctx}
theorem SV1_v (C:Ctx) {x:Value} (h:x.oneCell' = true) : SV1 C (.v x) x := by
 show V C (.v x) [x]
 simp [V,h]
theorem JTM {k:IntKind} : ∀ {xs:List AV} {ns:List Int} {cs:List Value},intsOf k xs = some ns → Vs C xs cs → cs = ns.map (Value.int k)
 | [],ns,cs,h,hv=>by
   simp only [intsOf,Option.some.injEq] at h
   subst h
   simpa [Vs] using hv
 | x :: xs,ns,cs,h,hv=>by
   unfold intsOf at h
   split at h
   ·rename_i e; cases e
   ·rename_i e
    obtain ⟨rfl,rfl⟩:=List.cons.inj e
    split at h
    ·rename_i hk
     subst hk
     simp only [Option.map_eq_some_iff] at h
     obtain ⟨ms,hm,rfl⟩:=h
     simp only [Vs] at hv
     obtain ⟨c1,c2,rfl,h1,h2⟩:=hv
     rw [V_one h1,JTM hm h2]
     rfl
    ·cases h
   ·cases h
theorem JRI (hw:WR w0 Ws I0 C) {it gi l g:Nat} {a b:Int} {seen:List AV} {ns:List Int} {x:Value} (hp:SV C (.oref it gi false) x) (h1:C.m it = some (.ob gi .iter (.node [.oref l g true,.v (.int .i64 a),.v (.int .i64 b),.node seen]))) (h2:intsOf .i64 seen = some ns) :
 ∃ (r rm since last:Nat) (sa:Array Nat),x = .pointer (some ⟨r,0,none⟩) ∧ C.blk it = some r ∧ C.w.heap[r]? = some (.mapIter (some rm) since sa last) ∧ V C (.oref l g true) [.map (some rm)] ∧ a = (since:Nat) ∧ b = (last:Nat) ∧ ns = sa.toList.map (fun (n:Nat)=>(n:Int)):=by
 have hp':V C (.oref it gi false) [x]:=hp
 simp only [V] at hp'
 obtain ⟨r,e,_,k⟩:=hp'
 obtain rfl:=(List.cons.inj e).1
 have hb:=k _ _ h1
 obtain ⟨b',o,cs,k1,k2,k3,k4⟩:=hw.locs it _ h1
 rw [hb] at k1
 obtain rfl:=Option.some.inj k1
 cases o with
 | mapIter mo since sa last =>
   have k3':cs = .map mo :: .int .i64 (since:Nat) :: .int .i64 (last:Nat) :: sa.toList.map (fun (n:Nat)=>Value.int .i64 (n:Nat)):=k3
   subst k3'
   simp only [V,Vs] at k4
   obtain ⟨c1,c2,e1,⟨rm,rfl,q1,q2⟩,c3,c4,rfl,⟨rfl,_⟩,c5,c6,rfl,⟨rfl,_⟩,c7,c8,rfl,q3,rfl⟩:=k4
   simp only [List.singleton_append,List.cons.injEq,List.append_nil,Value.int.injEq,true_and] at e1
   obtain ⟨e2,e3,e4,e5⟩:=e1
   have e6:=JTM h2 q3
   rw [e6] at e5
   have e7:ns = sa.toList.map (fun (n:Nat)=>(n:Int)):=by
    have:=congrArg (List.map (fun v=>match v with | Value.int _ n=>n | _=>0)) e5
    simp only [List.map_map] at this
    have f1:(fun v=>match v with | Value.int _ n=>n | _=>0) ∘ Value.int .i64 = id:=by funext n; rfl
    rw [f1,List.map_id] at this
    rw [← this]
    rfl
   have e2':mo = some rm:=by
    have:Value.map mo = .map (some rm):=e2
    exact Value.map.inj this
   subst e2'
   refine ⟨r,rm,since,last,sa,rfl,hb,k2,?_,e3.symm,e4.symm,e7⟩
   simp only [V]
   exact ⟨rm,rfl,q1,q2⟩
 | _=>exact k3.elim
theorem JOi {e:AV} {n:Int} {m:Nat} (h:bornOf e = some n) (hv:V C (entB e) [.int .i64 (m:Nat)]) : n = (m:Nat) ∧ entB e = .v (.int .i64 (m:Nat)) := by
 unfold bornOf at h
 split at h
 ·rename_i k hk
  obtain rfl:=Option.some.inj h
  rw [hk] at hv
  have:=V_one hv
  simp only [List.cons.injEq,Value.int.injEq,true_and,and_true] at this
  subst this
  exact ⟨rfl,hk⟩
 ·cases h
theorem J11 (hw:WR w0 Ws I0 C) {it gi:Nat} {x:Value} {ty:TypeId} {K:AV → List (Nat × Option Loc) → Prop} (hp:SV C (.oref it gi false) x) (h:headW .next C.m it gi K) :
 ∃ av us y C',(Instr.next x false ty).run P C.w = .ok y C'.w ∧ SV C' av y ∧ C.Le C' ∧ WR w0 Ws I0 C' ∧ C'.m = ups C.m us ∧ (∀ k,C'.used k → C.used k) ∧ K av us:=by
 obtain ⟨l,g,a,b,seen,ns,ka,ks,va,vs,es,c,h1,h2,h3,h4,hab,hbelow,hover,hnext⟩:=h
 obtain ⟨r,rm,since,last,sa,rfl,hbi,hri,hvm,rfl,rfl,rfl⟩:=JRI hw hp h1 h2
 obtain ⟨rm',mes,clock,ps,e0,hbm,hheap,hlist,hlens,hV,hcv⟩:=Jmv hw (show SV C (.oref l g true) (.map (some rm)) from hvm) h3
 obtain rfl:=Option.some.inj (Value.map.inj e0)
 obtain ⟨_,rfl⟩:=(by simpa using hcv:True ∧ c = (clock:Nat))
 obtain ⟨hlen,hent⟩:=JOH h4 hlens hV
 have hmem:∀ q ∈ mes.toList,∃ (i:Nat) (e:AV) (p:List Value × List Value × Nat),es[i]? = some e ∧ ps[i]? = some p ∧ q = entOf ka va p:=by
  intro q hq
  rw [hlist] at hq
  obtain ⟨p,hp1,rfl⟩:=List.mem_map.1 hq
  obtain ⟨i,hi,rfl⟩:=List.getElem_of_mem hp1
  exact ⟨i,es[i],ps[i],List.getElem?_eq_getElem (by omega),List.getElem?_eq_getElem hi,rfl⟩
 have hold:∀ q ∈ mes.toList,q.born < since:=by
  intro q hq
  obtain ⟨i,e,p,q1,q2,rfl⟩:=hmem q hq
  obtain ⟨n,q3,q4⟩:=hbelow e (List.mem_of_getElem? q1)
  obtain ⟨rfl,_⟩:=JOi q3 (hent i e p q1 q2).b
  show p.2.2 < since
  omega
 rcases run_next_at (P:=P) C.w ty r rm since last sa mes clock hri hheap hold (by omega) with ⟨hz,hrun⟩ | ⟨q,hq,w1,hw1,hrun⟩
 ·refine ⟨.tup [.v (.bool false)],[],_,C,hrun,⟨#[.bool false],rfl,_,_,rfl,SV1_v _ rfl,rfl⟩,Ctx.Le.refl C,hw,rfl,fun _ h=>h,hover fun e he=>?_⟩
  obtain ⟨i,hi,rfl⟩:=List.getElem_of_mem he
  have hips:i < ps.length:=hlen ▸ hi
  have hpi:ps[i]? = some ps[i]:=List.getElem?_eq_getElem hips
  have hei:es[i]? = some es[i]:=List.getElem?_eq_getElem hi
  obtain ⟨n,q3,q4⟩:=hbelow _ he
  obtain ⟨rfl,_⟩:=JOi q3 (hent i _ _ hei hpi).b
  refine ⟨_,?_,q3⟩
  have hin:entOf ka va ps[i] ∈ mes:=by
   rw [← Array.mem_toList_iff,hlist]
   exact List.mem_map.2 ⟨_,List.mem_of_getElem? hpi,rfl⟩
  have hempty:leftOf mes sa = #[]:=Array.eq_empty_of_size_eq_zero hz
  have hc:sa.contains (entOf ka va ps[i]).born = true:=by
   cases hcc:sa.contains (entOf ka va ps[i]).born with
   | true=>rfl
   | false =>
     exfalso
     have:entOf ka va ps[i] ∈ leftOf mes sa:=by
      unfold leftOf
      exact Array.mem_filter.2 ⟨hin,by simp only [hcc,Bool.not_false]⟩
     rw [hempty] at this
     simp at this
  refine List.mem_map.2 ⟨(entOf ka va ps[i]).born,?_,rfl⟩
  simpa using hc
 ·have hq':q ∈ mes ∧ sa.contains q.born = false:=by
   have hq1:q ∈ leftOf mes sa:=by simpa using hq
   unfold leftOf at hq1
   have:=Array.mem_filter.1 hq1
   exact ⟨this.1,by simpa using this.2⟩
  obtain ⟨i,e,p,q1,q2,rfl⟩:=hmem q (by simpa using hq'.1)
  obtain ⟨n,q3,q4⟩:=hbelow e (List.mem_of_getElem? q1)
  obtain ⟨rfl,hbe⟩:=JOi q3 (hent i e p q1 q2).b
  have hg1:C.w.grownBy w1 none:=by
   rcases hw1 with rfl | rfl
   ·exact World.grownBy_self _ _
   ·exact ⟨rfl,rfl,rfl,Nat.le_refl _,fun _ _ _=>rfl⟩
  obtain ⟨hle1,hwr1⟩:=hw.world hg1
  have hri1:w1.heap[r]? = some (.mapIter (some rm) since sa last):=by rcases hw1 with rfl | rfl <;> exact hri
  have hput:=hwr1.putO (l:=it) (b:=r) (c':=.ob gi .iter (.node [.oref l g true,.v (.int .i64 (since:Nat)),.v (.int .i64 (clock:Nat)),.node (seen ++ [entB e])])) h1 hbi hri1 (fun _ _ _ e=>by cases e)
   (JrU w1 r (.mapIter (some rm) since (sa.push (entOf ka va p).born) clock)) (by simp [Loc.same])
  have hok:=hput.2 ⟨r,_,_,hbi,JHh hri1,rfl,by
   simp only [V,Vs]
   have hvm':=JtJ (hle1.trans hput.1) _ _ hvm
   simp only [V] at hvm'
   refine ⟨[.map (some rm)],_,rfl,hvm',[.int .i64 (since:Nat)],_,rfl,⟨rfl,rfl⟩,[.int .i64 (clock:Nat)],_,rfl,⟨rfl,rfl⟩,_,[],(List.append_nil _).symm,?_,rfl⟩
   have hvs:Vs C seen (sa.toList.map (fun (n:Nat)=>Value.int .i64 (n:Nat))):=by
    obtain ⟨b',o,cs,k1,k2,k3,k4⟩:=hw.locs it _ h1
    rw [hbi] at k1
    obtain rfl:=Option.some.inj k1
    rw [hri] at k2
    obtain rfl:=Option.some.inj k2
    have k3':cs = .map (some rm) :: .int .i64 (since:Nat) :: .int .i64 (last:Nat) :: sa.toList.map (fun (n:Nat)=>Value.int .i64 (n:Nat)):=k3
    subst k3'
    simp only [V,Vs] at k4
    obtain ⟨c1,c2,e1,⟨rm,rfl,q1,q2⟩,c3,c4,rfl,⟨rfl,_⟩,c5,c6,rfl,⟨rfl,_⟩,c7,c8,rfl,q3,rfl⟩:=k4
    simp only [List.singleton_append,List.cons.injEq,List.append_nil] at e1
    rw [e1.2.2.2]
    exact q3
   have hvs':=JQy (hle1.trans hput.1) _ _ hvs
   rw [Array.toList_push,List.map_append]
   have happ:∀ {C:Ctx} {xs ys:List AV} {c1 c2:List Value},Vs C xs c1 → Vs C ys c2 → Vs C (xs ++ ys) (c1 ++ c2):=by
    intro C xs
    induction xs with
    | nil=>intro ys c1 c2 h1 h2; simp only [Vs] at h1; subst h1; exact h2
    | cons x xs ih =>
      intro ys c1 c2 h1 h2
      simp only [Vs,List.cons_append] at h1 ⊢
      obtain ⟨d1,d2,rfl,k1,k2⟩:=h1
      exact ⟨d1,d2 ++ c2,by simp,k1,ih k2 h2⟩
   refine happ hvs' ?_
   rw [hbe]
   simp only [Vs,V]
   exact ⟨[_],[],rfl,⟨rfl,rfl⟩,rfl⟩⟩
  refine ⟨_,_,_,_,hrun,?_,hle1.trans hput.1,hok,rfl,fun _ h=>h,hnext e _ (List.mem_of_getElem? q1) q3 ?_⟩
  ·exact ⟨_,rfl,_,_,rfl,SV1_v _ rfl,_,_,rfl,trivial,_,_,rfl,trivial,rfl⟩
  ·intro hn
   obtain ⟨k,hk,hkk⟩:=List.mem_map.1 hn
   have:k = p.2.2:=by omega
   subst this
   have h9:=hq'.2
   rw [Bool.eq_false_iff] at h9
   exact h9 (by simpa [entOf] using hk)
theorem JPY {b:Int} : ∀ {es:List AV} {e:AV},findB b es = some e → ∃ i : Nat,es[i]? = some e ∧ bornOf e = some b ∧ ∀ (j:Nat) (e':AV),j < i → es[j]? = some e' → bornOf e' ≠ some b
 | [],_,h=>by simp [findB] at h
 | e0 :: es,e,h=>by
   simp only [findB] at h
   split at h
   ·rename_i hb
    obtain rfl:=Option.some.inj h
    exact ⟨0,rfl,hb,fun j _ hj=>absurd hj (Nat.not_lt_zero _)⟩
   ·rename_i hb
    obtain ⟨i,h1,h2,h3⟩:=JPY h
    refine ⟨i + 1,by simpa using h1,h2,fun j e' hj hje=>?_⟩
    cases j with
    | zero =>
      simp only [List.getElem?_cons_zero,Option.some.injEq] at hje
      subst hje
      exact hb
    | succ j=>exact h3 j e' (by omega) (by simpa using hje)
theorem JY6 {a:AV} {cs:List Value} {agg:Bool} (h:V C a cs) (ha:a.isAgg = agg) (h1:agg = false → cs.length = 1) : SV1 C a (valOf agg cs) := by
 have hsv:=JAk h ha h1
 cases a <;> first | exact hsv | (simp [V] at h)
theorem JYt {α:Type} {f:α → Bool} : ∀ {l:List α} {i:Nat} {x:α},l[i]? = some x → f x = true → (∀ (j:Nat) (y:α),j < i → l[j]? = some y → f y = false) → l.find? f = some x
 | [],_,_,h,_,_=>by simp at h
 | y :: l,0,x,h,hx,_=>by
   simp only [List.getElem?_cons_zero,Option.some.injEq] at h
   subst h
   simp [hx]
 | y :: l,i + 1,x,h,hx,hn=>by
   rw [List.find?_cons_of_neg (by simp [hn 0 y (by omega) rfl])]
   exact JYt (by simpa using h) hx (fun j z hj hz=>hn (j + 1) z (by omega) (by simpa using hz))
theorem JYx (hw:WR w0 Ws I0 C) {it gi:Nat} {x:Value} {K:AV → List (Nat × Option Loc) → Prop} (hp:SV C (.oref it gi false) x) (h:headW .entry C.m it gi K) :
 ∃ av us y C',(Instr.entry x).run P C.w = .ok y C'.w ∧ SV C' av y ∧ C.Le C' ∧ WR w0 Ws I0 C' ∧ C'.m = ups C.m us ∧ (∀ k,C'.used k → C.used k) ∧ K av us:=by
 obtain ⟨l,g,a,b,seen,ns,ka,ks,va,vs,es,c,h1,h2,h3,h4,hcb,hborn,n,e,hlast,hfind,hka,hva,hak,hav,hK⟩:=h
 obtain ⟨r,rm,since,last,sa,rfl,hbi,hri,hvm,rfl,rfl,rfl⟩:=JRI hw hp h1 h2
 obtain ⟨rm',mes,clock,ps,e0,hbm,hheap,hlist,hlens,hV,hcv⟩:=Jmv hw (show SV C (.oref l g true) (.map (some rm)) from hvm) h3
 obtain rfl:=Option.some.inj (Value.map.inj e0)
 obtain ⟨_,rfl⟩:=(by simpa using hcv:True ∧ c = (clock:Nat))
 obtain ⟨hlen,hent⟩:=JOH h4 hlens hV
 obtain ⟨i,q1,q2,q3⟩:=JPY hfind
 have hi:=(List.getElem?_eq_some_iff.1 q1).1
 have hips:i < ps.length:=hlen ▸ hi
 have hpi:ps[i]? = some ps[i]:=List.getElem?_eq_getElem hips
 have hev:=hent i e _ q1 hpi
 obtain ⟨rfl,_⟩:=JOi q2 hev.b
 have hclk:last = clock:=by omega
 have hback:sa.back? = some (ps[i]).2.2:=by
  rw [List.getLast?_map] at hlast
  obtain ⟨k,hk,hkk⟩:=Option.map_eq_some_iff.1 hlast
  have:k = (ps[i]).2.2:=by omega
  rw [← Array.getLast?_toList,hk,this]
 have hmf:mes.find? (fun q=>q.born == (ps[i]).2.2) = some (entOf ka va ps[i]):=by
  rw [← Array.find?_toList,hlist]
  refine JYt (i:=i) (by rw [List.getElem?_map,hpi]; rfl) (by simp [entOf]) fun j y hj hy=>?_
  rw [List.getElem?_map] at hy
  obtain ⟨p',hp',rfl⟩:=Option.map_eq_some_iff.1 hy
  have hej:es[j]? = some es[j]:=List.getElem?_eq_getElem (by omega)
  have hne:=q3 j _ hj hej
  have hvb:=(hent j _ _ hej hp').b
  cases hbe:(entOf ka va p').born == (ps[i]).2.2 with
  | false=>rfl
  | true =>
    exfalso
    have heq:p'.2.2 = (ps[i]).2.2:=by simpa [entOf] using hbe
    apply hne
    obtain ⟨n',hn'⟩:=hborn _ (List.mem_of_getElem? hej)
    obtain ⟨rfl,_⟩:=JOi hn' hvb
    rw [hn',heq]
 have hobj:(getObj r).run P C.w = .ok (.mapIter (some rm) since sa last) C.w:=by simp [getObj,Sem.run,hri]
 have hobj2:(getObj rm).run P C.w = .ok (.map mes clock) C.w:=MapKept.run_getObj_map hheap
 refine ⟨_,_,.tuple #[valOf ka (ps[i]).1,valOf va (ps[i]).2.1],C,?_,?_,Ctx.Le.refl C,hw,rfl,fun _ h=>h,hK⟩
 ·simp only [Instr.entry,Sem.run_bind,hobj,hobj2,Result.andThen_ok,hback,hclk,bne_self_eq_false,Bool.false_eq_true,if_false,hmf]
  rfl
 ·have hl:=hlens _ (List.mem_of_getElem? hpi)
  exact ⟨_,rfl,_,_,rfl,JY6 hev.k hka (fun q=>by rw [hl.1]; exact JmG hak q),_,_,rfl,JY6 hev.v hva (fun q=>by rw [hl.2]; exact JmG hav q),rfl⟩
end
end
section
open Go
def apartB (x y:COper) : Bool :=
 (match x.dst with | some d=>!(y.looks.contains d) && !(y.dst == some d) | none=>true) && (match y.dst with | some d=>!(x.looks.contains d) | none=>true)
theorem J0o {x y:COper} (h:apartB x y = true) : slotsApart x y := by
 unfold apartB at h
 simp only [Bool.and_eq_true] at h
 obtain ⟨h1,h2⟩:=h
 refine ⟨fun d hd=>?_,fun d hd=>?_⟩
 ·rw [hd] at h1
  simp only [Bool.and_eq_true,Bool.not_eq_true',beq_eq_false_iff_ne,ne_eq,List.contains_eq_mem,decide_eq_false_iff_not] at h1
  exact h1
 ·rw [hd] at h2
  simpa using h2
def edges (o:Oper) : List Nat := (o.after.toList.filter fun e=>Region.binds .any e).map (·.on)
def unionOf (A:List Nat) : List Nat → Nat
 | []=>0
 | p :: ps=>(2 ^ p ||| A.getD p 0) ||| unionOf A ps
def ordRow (cs:List COper) (A:List Nat) (D:List (Nat × Nat)) (j:Nat) (o:Oper) (c:COper) : Bool :=
 (edges o).all (fun p=>decide (p < j)) && (A.getD j 0 ||| unionOf A (edges o) == unionOf A (edges o)) &&
  (num 0 (cs.take j)).all fun p=>(A.getD j 0).testBit p.1 ||
   (apartB p.2 c && (quiet p.2.op || quiet c.op || ((quiet p.2.op || looker p.2.op) && (quiet c.op || looker c.op)) || D.contains (p.1,j)))
def ordOk (cs:List COper) (A:List Nat) (D:List (Nat × Nat)) : Nat → List Oper → List COper → Bool
 | _,[],[]=>true
 | j,o :: os,c :: rest=>ordRow cs A D j o c && ordOk cs A D (j + 1) os rest
 | _,_,_=>false
theorem JRv {cs:List COper} {A:List Nat} {D:List (Nat × Nat)} : ∀ {os:List Oper} {rest:List COper} {j i:Nat} {o:Oper} {c:COper},ordOk cs A D j os rest = true → os[i]? = some o → rest[i]? = some c → ordRow cs A D (j + i) o c = true
 | [],_,_,_,_,_,_,h,_=>by simp at h
 | o :: os,[],_,_,_,_,h,_,_=>by simp [ordOk] at h
 | o :: os,c :: rest,j,0,o',c',h,h1,h2=>by
   simp only [ordOk,Bool.and_eq_true] at h
   simp only [List.getElem?_cons_zero,Option.some.injEq] at h1 h2
   subst h1 h2
   exact h.1
 | o :: os,c :: rest,j,i + 1,o',c',h,h1,h2=>by
   simp only [ordOk,Bool.and_eq_true] at h
   have:=JRv (i:=i) h.2 (by simpa using h1) (by simpa using h2)
   rwa [show j + 1 + i = j + (i + 1) by omega] at this
theorem JOP {A:List Nat} : ∀ {ps:List Nat} {i:Nat},(unionOf A ps).testBit i = true → ∃ p ∈ ps,i = p ∨ (A.getD p 0).testBit i = true
 | [],_,h=>by simp [unionOf] at h
 | p :: ps,i,h=>by
   simp only [unionOf,Nat.testBit_or,Bool.or_eq_true,Nat.testBit_two_pow,decide_eq_true_eq] at h
   rcases h with (h | h) | h
   ·exact ⟨p,List.mem_cons_self,.inl h.symm⟩
   ·exact ⟨p,List.mem_cons_self,.inr h⟩
   ·obtain ⟨q,hq,k⟩:=JOP h
    exact ⟨q,List.mem_cons_of_mem _ hq,k⟩
section
variable {ops:Array Oper} {cs:List COper} {A:List Nat} {D:List (Nat × Nat)}
theorem JY8 (h:ordOk cs A D 0 ops.toList cs = true) {j:Nat} {o:Oper} {c:COper} (ho:ops[j]? = some o) (hc:cs[j]? = some c) : ordRow cs A D j o c = true := by
 have:=JRv (i:=j) h (by simpa using ho) hc
 rwa [Nat.zero_add] at this
theorem JXV (h:ordOk cs A D 0 ops.toList cs = true) (hlen:ops.size = cs.length) {T:Nat → Prop} (hT:∀ j o,T j → ops[j]? = some o → ∀ p ∈ edges o,T p) (hin:∀ j,T j → j < ops.size) :
 ∀ (j:Nat) (o:Oper),ops[j]? = some o → (∀ p ∈ edges o,T p) → ∀ i,(A.getD j 0).testBit i = true → T i:=by
 intro j
 induction j using Nat.strongRecOn with
 | _ j ih =>
   intro o ho hp i hi
   have hj:j < cs.length:=by
    have:=(Array.getElem?_eq_some_iff.1 ho).1
    omega
   have hr:=JY8 h ho (List.getElem?_eq_getElem hj)
   simp only [ordRow,Bool.and_eq_true,beq_iff_eq] at hr
   obtain ⟨⟨h1,h2⟩,_⟩:=hr
   have hu:(unionOf A (edges o)).testBit i = true:=by
    rw [← h2,Nat.testBit_or,hi,Bool.true_or]
   obtain ⟨p,hpe,k⟩:=JOP hu
   rcases k with rfl | k
   ·exact hp _ hpe
   ·have hlt:p < j:=by simpa using (List.all_eq_true.1 h1) p hpe
    have hTp:=hp p hpe
    have hps:=hin p hTp
    exact ih p hlt ops[p] (Array.getElem?_eq_getElem hps) (fun q hq=>hT p ops[p] hTp (Array.getElem?_eq_getElem hps) q hq) i k
end
def lgAt (lg:Log) (i:Nat) : List Nat × List Nat := (look lg i).getD ([],[])
def dynOk (lg:Log) : List (Nat × Nat) → Prop
 | []=>True
 | p :: D=>memApart (lgAt lg p.1) (lgAt lg p.2) ∧ dynOk lg D
theorem JSb {lg:Log} : ∀ {D:List (Nat × Nat)} {p:Nat × Nat},dynOk lg D → p ∈ D → memApart (lgAt lg p.1) (lgAt lg p.2)
 | [],_,_,h=>by cases h
 | q :: D,p,h,hm=>by
   rcases List.mem_cons.1 hm with rfl | hm
   ·exact h.1
   ·exact JSb h.2 hm
theorem JPD {lg lg':Log} (h:∀ j,lgAt lg' j = lgAt lg j ∨ lgAt lg' j = ([],[])) : ∀ {D:List (Nat × Nat)},dynOk lg D → dynOk lg' D
 | [],_=>trivial
 | p :: D,hd=>by
   refine ⟨?_,JPD h hd.2⟩
   have h1:=hd.1
   rcases h p.1 with e1 | e1 <;> rcases h p.2 with e2 | e2 <;> rw [e1,e2]
   ·exact h1
   ·refine ⟨fun l _=>⟨fun hl=>(by cases hl),fun hl=>(by cases hl)⟩,fun l hl=>(by cases hl)⟩
   ·refine ⟨fun l hl=>(by cases hl),fun l _ hl=>(by cases hl)⟩
   ·refine ⟨fun l hl=>(by cases hl),fun l hl=>(by cases hl)⟩
section
variable {P:Program} {G:Nat → Option AV} {clk:Nat}
def LogOk (L:List (Nat × COper)) (lg:Log) : Prop := ∀ e ∈ lg,∃ c,(e.1,c) ∈ L ∧ (quiet c.op = true → e.2 = ([],[])) ∧ ((quiet c.op || looker c.op) = true → e.2.2 = [])
theorem JNv : ∀ {L:List (Nat × COper)} {s s':AS} {lg:Log},RunL P G clk L s lg s' → LogOk L lg ∧ lg.map (·.1) = L.map (·.1)
 | [],_,_,lg,h=>by
   obtain ⟨rfl,_⟩:=h
   exact ⟨fun e he=>(by cases he),rfl⟩
 | (i,c) :: r,s,s',lg,h=>by
   obtain ⟨av,us,rd,lg',h1,rfl,h3⟩:=h
   obtain ⟨k1,k2⟩:=JNv h3
   refine ⟨fun e he=>?_,by simp [k2]⟩
   rcases List.mem_cons.1 he with rfl | he
   ·refine ⟨c,List.mem_cons_self,?_,?_⟩
    ·intro hq
     rcases h1 with ⟨_,_,rfl,rfl⟩ | ⟨_,vals,_,h1⟩
     ·rfl
     ·have e:step c.op vals s.2 (clk + i) (c.dst.getD 0) = some (av,us) ∧ rd = reads c.op vals:=by
       revert h1 hq
       cases c.op <;> first | exact fun _ h=>h | (intro hq; simp [quiet] at hq)
      have:=JV0 (by rw [hq]; rfl) e.1
      rw [this,e.2]
      simp [reads,hq]
    ·intro hq
     rcases h1 with ⟨_,_,rfl,rfl⟩ | ⟨_,vals,_,h1⟩
     ·rfl
     ·have e:step c.op vals s.2 (clk + i) (c.dst.getD 0) = some (av,us):=by
       revert h1 hq
       cases c.op <;> first | exact fun _ h=>h.1 | (intro hq; simp [quiet,looker] at hq)
      rw [JV0 hq e]
      rfl
   ·obtain ⟨c',h1,h2⟩:=k1 e he
    exact ⟨c',List.mem_cons_of_mem _ h1,h2⟩
theorem JLe {α:Type} {l:List (Nat × α)} {e:Nat × α} (hn:(l.map (·.1)).Nodup) (h:e ∈ l) : look l e.1 = some e.2 := Jj2 hn h
end
section
variable {P:Program} {w0:World} {Ws I0:Nat → Prop} {G:Nat → Option AV} {C0:Ctx} {N clk top:Nat} {ops:Array Oper} {cs:List COper} {A:List Nat} {D:List (Nat × Nat)}
theorem Mid.sub {rem rem':List Nat} {s:AS} {a:Act} {C:Ctx} (h:Mid w0 Ws I0 G C0 N clk top rem s a C) (hs:∀ i ∈ rem',i ∈ rem) : Mid w0 Ws I0 G C0 N clk top rem' s a C :=
 ⟨h.wr,h.m,h.fr,h.gr,h.le,h.size,h.defers,fun i hi=>h.fresh i (hs i hi),h.top,h.one⟩
theorem JX6 {cs:List COper} {i:Nat} : (num i cs).Pairwise fun p q => p.1 < q.1 := by
 induction cs generalizing i with
 | nil=>exact List.Pairwise.nil
 | cons c cs ih =>
   refine List.Pairwise.cons (fun q hq=>?_) ih
   have:=(JK7 hq).1
   simp only
   omega
theorem JRk {cs:List COper} {i j:Nat} {c:COper} (h:cs[j]? = some c) : (i + j,c) ∈ num i cs := by
 induction cs generalizing i j with
 | nil=>simp at h
 | cons x cs ih =>
   cases j with
   | zero=>simp only [List.getElem?_cons_zero,Option.some.injEq] at h; subst h; exact List.mem_cons_self
   | succ j =>
     simp only [List.getElem?_cons_succ] at h
     have:=ih (i:=i + 1) h
     rw [show i + 1 + j = i + (j + 1) by omega] at this
     exact List.mem_cons_of_mem _ this
theorem J1F {Q:Exit → Act → World → Prop} (hchk:chkList P ops N ops.toList cs = true) (hord:ordOk cs A D 0 ops.toList cs = true) (htop:∀ i,i < cs.length → clk + i < top ∧ clk + i ≠ 1) {s':AS}
 (hQ:∀ a' C',Mid w0 Ws I0 G C0 N clk top [] s' a' C' → Q .normal a' C'.w) :
 ∀ (fuel:Nat) (listed:Array Bool) (L:List (Nat × COper)) (s:AS) (a:Act) (C:Ctx) (lg:Log),listed.size = ops.size → L = (num 0 cs).filter (fun p=>!listed.getD p.1 true) → L.length = fuel →
  (∀ j o,listed.getD j false = true → ops[j]? = some o → ∀ p ∈ edges o,listed.getD p false = true) → (lg.map (·.1)).Nodup → dynOk lg D →
  Mid w0 Ws I0 G C0 N clk top (L.map (·.1)) s a C → RunL P G clk L s lg s' → wpAny P .any ops Q fuel listed a C.w:=by
 have hlen:ops.size = cs.length:=by simpa using (Jbj (i:=0) hchk).1
 have hbd:∀ (listed:Array Bool) i,listed.size = ops.size → i < ops.size → listed.getD i true = listed.getD i false:=by
  intro listed i h1 h2
  simp [Array.getD,h1,h2]
 intro fuel
 induction fuel with
 | zero =>
   intro listed L s a C lg hsz hL hlen0 hT hnd hdyn hm hrun
   have hL0:L = []:=List.eq_nil_of_length_eq_zero hlen0
   subst hL0
   obtain ⟨_,rfl⟩:=hrun
   refine ⟨?_,hQ a C hm⟩
   unfold Region.ready
   rw [List.filter_eq_nil_iff]
   intro i hi
   simp only [List.mem_range] at hi
   have hmem:(0 + i,cs[i]'(by omega)) ∈ num 0 cs:=JRk (List.getElem?_eq_getElem (by omega))
   rw [Nat.zero_add] at hmem
   have:=hL
   have hno:¬ (!listed.getD i true) = true:=by
    intro hx
    have:(i,cs[i]'(by omega)) ∈ (num 0 cs).filter (fun p=>!listed.getD p.1 true):=List.mem_filter.2 ⟨hmem,hx⟩
    rw [← hL] at this
    cases this
   simp only [Bool.and_eq_true,not_and]
   intro hx
   exact absurd hx hno
 | succ fuel ih =>
   intro listed L s a C lg hsz hL hlen0 hT hnd hdyn hm hrun
   have hmemL:∀ {i c},(i,c) ∈ L → i < ops.size ∧ cs[i]? = some c ∧ listed.getD i true = false:=by
    intro i c h
    rw [hL] at h
    obtain ⟨h1,h2⟩:=List.mem_filter.1 h
    have h3:=(JK7 h1).2
    simp only [Nat.sub_zero] at h3
    refine ⟨?_,h3,by simpa using h2⟩
    have:=(List.getElem?_eq_some_iff.1 h3).1
    omega
   have hsorted:L.Pairwise fun p q=>p.1 < q.1:=by rw [hL]; exact List.Pairwise.filter _ JX6
   have hndL:(L.map (·.1)).Nodup:=by
    rw [List.nodup_iff_pairwise_ne,List.pairwise_map]
    exact hsorted.imp fun h=>Nat.ne_of_lt h
   have hready:∀ i,i ∈ Region.ready .any ops listed ↔ i < ops.size ∧ listed.getD i true = false ∧ ∃ o,ops[i]? = some o ∧ ∀ p ∈ edges o,listed.getD p false = true:=by
    intro i
    unfold Region.ready
    simp only [List.mem_filter,List.mem_range,Bool.and_eq_true,Bool.not_eq_true']
    constructor
    ·rintro ⟨h1,h2,h3⟩
     refine ⟨h1,h2,ops[i],Array.getElem?_eq_getElem h1,fun p hp=>?_⟩
     rw [Array.getElem?_eq_getElem h1] at h3
     simp only [Option.map_some,Option.getD_some] at h3
     rw [Array.all_eq_true'] at h3
     obtain ⟨e,he,rfl⟩:=List.mem_map.1 hp
     obtain ⟨he1,he2⟩:=List.mem_filter.1 he
     have:=h3 e (by simpa using he1)
     simpa [he2] using this
    ·rintro ⟨h1,h2,o,ho,h3⟩
     refine ⟨h1,h2,?_⟩
     rw [ho]
     simp only [Option.map_some,Option.getD_some]
     rw [Array.all_eq_true']
     intro e he
     cases hb:Region.binds .any e with
     | false=>rfl
     | true =>
       have:=h3 e.on (List.mem_map.2 ⟨e,List.mem_filter.2 ⟨by simpa using he,hb⟩,rfl⟩)
       simpa using this
   refine ⟨fun hnil=>?_,fun i hi=>?_⟩
   ·
    exfalso
    cases L with
    | nil=>simp at hlen0
    | cons p L' =>
      obtain ⟨i,c⟩:=p
      obtain ⟨h1,h2,h3⟩:=hmemL List.mem_cons_self
      have:i ∈ Region.ready .any ops listed:=by
       rw [hready]
       refine ⟨h1,h3,ops[i],Array.getElem?_eq_getElem h1,fun p hp=>?_⟩
       have hr:=JY8 hord (Array.getElem?_eq_getElem h1) h2
       simp only [ordRow,Bool.and_eq_true] at hr
       have hlt:p < i:=by simpa using (List.all_eq_true.1 hr.1.1) p hp
       rw [← hbd listed p hsz (by omega)]
       cases hq:listed.getD p true with
       | true=>rfl
       | false =>
         exfalso
         have hpm:(p,cs[p]'(by omega)) ∈ (i,c) :: L':=by
          rw [hL]
          have:=JRk (i:=0) (j:=p) (cs:=cs) (List.getElem?_eq_getElem (by omega))
          rw [Nat.zero_add] at this
          exact List.mem_filter.2 ⟨this,by simp [hq]⟩
         rcases List.mem_cons.1 hpm with e | hpm
         ·have:p = i:=congrArg Prod.fst e
          omega
         ·have:=(List.pairwise_cons.1 hsorted).1 _ hpm
          simp only at this
          omega
      rw [hnil] at this
      cases this
   ·obtain ⟨h1,h2,o,ho,h3⟩:=(hready i).1 hi
    obtain ⟨x,hci⟩:∃ x,cs[i]? = some x:=⟨cs[i]'(by omega),List.getElem?_eq_getElem (by omega)⟩
    have hmem:(i,x) ∈ L:=by
     rw [hL]
     have:=JRk (i:=0) hci
     rw [Nat.zero_add] at this
     exact List.mem_filter.2 ⟨this,by simp only [h2,Bool.not_false]⟩
    obtain ⟨B1,B2,hsplit⟩:=List.append_of_mem hmem
    have hlogs:=JNv hrun
    have hrow:=JY8 hord ho hci
    simp only [ordRow,Bool.and_eq_true] at hrow
    have hap:∀ b ∈ B1,slotsApart b.2 x ∧ ∀ ea ∈ lg,∀ ex ∈ lg,ea.1 = b.1 → ex.1 = i → memApart ea.2 ex.2:=by
     rintro ⟨j,y⟩ hb
     have hbL:(j,y) ∈ L:=by rw [hsplit]; exact List.mem_append_left _ hb
     obtain ⟨k1,k2,k3⟩:=hmemL hbL
     have hlt:j < i:=by
      rw [hsplit,List.pairwise_append] at hsorted
      exact hsorted.2.2 _ hb _ List.mem_cons_self
     have hbit:(A.getD i 0).testBit j = false:=by
      cases hq:(A.getD i 0).testBit j with
      | false=>rfl
      | true =>
        have:=JXV hord hlen (T:=fun j=>listed.getD j false = true) (fun j o hj ho p hp=>hT j o hj ho p hp) (fun j hj=>by
         rcases Nat.lt_or_ge j ops.size with h | h
         ·exact h
         ·simp [Array.getD,hsz,Nat.not_lt.2 h] at hj) i o ho h3 j hq
        rw [← hbd listed j hsz k1,k3] at this
        cases this
     have hpair:=(List.all_eq_true.1 hrow.2) (j,y) (by
      have:(cs.take i)[j]? = some y:=by rw [List.getElem?_take,if_pos hlt]; exact k2
      have:=JRk (i:=0) this
      rwa [Nat.zero_add] at this)
     simp only [hbit,Bool.false_or,Bool.and_eq_true] at hpair
     refine ⟨J0o hpair.1,fun ea hea ex hex e1 e2=>?_⟩
     obtain ⟨ca,hca,qa1,qa2⟩:=hlogs.1 ea hea
     obtain ⟨cx,hcx,qx1,qx2⟩:=hlogs.1 ex hex
     have eca:ca = y:=by
      have h5:=(hmemL hca).2.1
      rw [e1] at h5
      rw [k2] at h5
      exact (Option.some.inj h5).symm
     have ecx:cx = x:=by
      have h5:=(hmemL hcx).2.1
      rw [e2,hci] at h5
      exact (Option.some.inj h5).symm
     subst eca ecx
     have hp2:=hpair.2
     simp only [Bool.or_eq_true,Bool.and_eq_true] at hp2
     rcases hp2 with ((h | h) | h) | h
     ·rw [qa1 h]; exact ⟨fun l hl=>(by cases hl),fun l _ hl=>(by cases hl)⟩
     ·rw [qx1 h]; exact ⟨fun l _=>⟨fun hl=>(by cases hl),fun hl=>(by cases hl)⟩,fun l hl=>(by cases hl)⟩
     ·have w1:=qa2 (by simpa using h.1)
      have w2:=qx2 (by simpa using h.2)
      refine ⟨fun l hl=>?_,fun l hl=>?_⟩
      ·rw [w1] at hl; cases hl
      ·rw [w2] at hl; cases hl
     ·have hd:=JSb hdyn (by simpa using h:(j,i) ∈ D)
      simp only [lgAt] at hd
      rw [show j = ea.1 from e1.symm,show i = ex.1 from e2.symm,JLe hnd hea,JLe hnd hex] at hd
      exact hd
    rw [hsplit] at hrun
    obtain ⟨ex,lg',⟨av,us,rd,lg2,r1,r2,r3⟩,g2,g3⟩:=JPI hrun hap
    simp only [List.cons.injEq] at r2
    obtain ⟨_,rfl⟩:=r2
    have hck:=(Jbj (i:=i) hchk).2 o _ (by simpa using ho) hci
    have hmi:i ∈ L.map (·.1):=List.mem_map.2 ⟨_,hmem,rfl⟩
    refine JNL ho hck hndL hmi (htop i (by omega)).1 (htop i (by omega)).2 hm r1 fun a' C' hm'=>?_
    have hlist':∀ j,(listed.setIfInBounds i true).getD j true = (listed.getD j true || decide (j = i)):=by
     intro j
     by_cases e:j = i
     ·subst e; simp [Array.getD,hsz,h1]
     ·simp only [Array.getD_eq_getD_getElem?,Array.getElem?_setIfInBounds_ne (Ne.symm e)]; simp [e]
    have hlist2:∀ j,(listed.setIfInBounds i true).getD j false = true ↔ (listed.getD j false = true ∨ j = i):=by
     intro j
     by_cases e:j = i
     ·subst e; simp [Array.getD,hsz,h1]
     ·simp only [Array.getD_eq_getD_getElem?,Array.getElem?_setIfInBounds_ne (Ne.symm e)]; simp [e]
    have hB:B1 ++ B2 = (num 0 cs).filter (fun p=>!(listed.setIfInBounds i true).getD p.1 true):=by
     have e1:(num 0 cs).filter (fun p=>!(listed.setIfInBounds i true).getD p.1 true) = L.filter (fun p=>decide (p.1 ≠ i)):=by
      rw [hL,List.filter_filter]
      refine List.filter_congr fun p _=>?_
      rw [hlist' p.1]
      by_cases e:p.1 = i <;> simp [e]
     rw [e1,hsplit,List.filter_append,List.filter_cons_of_neg (by simp)]
     rw [hsplit,List.map_append,List.map_cons] at hndL
     have hnd1:=List.nodup_append.1 hndL
     congr 1
     ·refine (List.filter_eq_self.2 fun p hp=>?_).symm
      have:=hnd1.2.2 p.1 (List.mem_map.2 ⟨p,hp,rfl⟩) i List.mem_cons_self
      simpa using this
     ·refine (List.filter_eq_self.2 fun p hp=>?_).symm
      have:=(List.nodup_cons.1 hnd1.2.1).1
      have hne:p.1 ≠ i:=fun e=>this (e ▸ List.mem_map.2 ⟨p,hp,rfl⟩)
      simpa using hne
    have hlgs:=JNv r3
    have hsub:∀ e ∈ lg',e ∈ lg:=g3
    refine ih (listed.setIfInBounds i true) (B1 ++ B2) _ a' C' lg' (by simp [hsz]) hB ?_ ?_ ?_ ?_ (hm'.sub fun j hj=>?_) r3
    ·rw [hsplit] at hlen0
     simp only [List.length_append,List.length_cons] at hlen0 ⊢
     omega
    ·intro j oj hj hoj p hp
     rw [hlist2] at hj ⊢
     rcases hj with hj | rfl
     ·exact .inl (hT j oj hj hoj p hp)
     ·rw [ho] at hoj
      obtain rfl:=Option.some.inj hoj
      exact .inl (h3 p hp)
    ·rw [hlgs.2]
     rw [hsplit,List.map_append,List.map_cons] at hndL
     have hnd1:=List.nodup_append.1 hndL
     rw [List.map_append]
     refine List.nodup_append.2 ⟨hnd1.1,(List.nodup_cons.1 hnd1.2.1).2,fun x hx y hy=>hnd1.2.2 x hx y (List.mem_cons_of_mem _ hy)⟩
    ·have hnd':(lg'.map (·.1)).Nodup:=by
      rw [hlgs.2]
      rw [hsplit,List.map_append,List.map_cons] at hndL
      have hnd1:=List.nodup_append.1 hndL
      rw [List.map_append]
      exact List.nodup_append.2 ⟨hnd1.1,(List.nodup_cons.1 hnd1.2.1).2,fun x hx y hy=>hnd1.2.2 x hx y (List.mem_cons_of_mem _ hy)⟩
     have hlook:∀ j,lgAt lg' j = lgAt lg j ∨ lgAt lg' j = ([],[]):=by
      intro j
      unfold lgAt
      cases hq:look lg' j with
      | none=>exact .inr rfl
      | some v=>left; rw [JLe hnd (hsub _ (Jbh hq))]
     exact JPD hlook hdyn
    ·rw [List.mem_map] at hj
     obtain ⟨p,hp,rfl⟩:=hj
     refine (List.mem_erase_of_ne ?_).2 (List.mem_map.2 ⟨p,by rw [hsplit]; rcases List.mem_append.1 hp with hp | hp; exact List.mem_append_left _ hp; exact List.mem_append_right _ (List.mem_cons_of_mem _ hp),rfl⟩)
     rw [hsplit,List.map_append,List.map_cons] at hndL
     have hnd1:=List.nodup_append.1 hndL
     rcases List.mem_append.1 hp with hp | hp
     ·have:=hnd1.2.2 p.1 (List.mem_map.2 ⟨p,hp,rfl⟩) i List.mem_cons_self
      simpa using this
     ·have:=(List.nodup_cons.1 hnd1.2.1).1
      exact fun e=>this (e ▸ List.mem_map.2 ⟨p,hp,rfl⟩)
end
end
section
open Go
def insL {α:Type} : List (Nat × α) → Nat → α → List (Nat × α)
 | [],k,v=>[(k,v)]
 | (j,u) :: r,k,v=>if k < j then (k,v) :: (j,u) :: r else if k = j then (k,v) :: r else (j,u) :: insL r k v
def delL {α:Type} : List (Nat × α) → Nat → List (Nat × α)
 | [],_=>[]
 | (j,u) :: r,k=>if j = k then delL r k else (j,u) :: delL r k
def keepL {α:Type} (ks:List Nat) : List (Nat × α) → List (Nat × α)
 | []=>[]
 | (j,u) :: r=>if j ∈ ks then (j,u) :: keepL ks r else keepL ks r
theorem JJl {α:Type} : ∀ (l:List (Nat × α)) (k:Nat) (v:α),look (insL l k v) = upd (look l) k (some v)
 | [],k,v=>by funext t; simp [insL,look,upd,eq_comm]
 | (j,u) :: r,k,v=>by
   funext t
   simp only [insL]
   split
   ·simp only [look,upd]
    by_cases h:t = k
    ·simp [h]
    ·simp [h,Ne.symm h]
   ·split
    ·rename_i h
     subst h
     simp only [look,upd]
     by_cases h:t = k
     ·simp [h]
     ·simp [h,Ne.symm h]
    ·rename_i h1 h2
     simp only [look]
     rw [JJl r k v]
     by_cases h:j = t
     ·subst h
      simp [upd,look,Ne.symm h2]
     ·by_cases h3:t = k
      ·subst h3; simp [upd,h]
      ·simp [upd,h,h3,look]
theorem JOn {α:Type} : ∀ (l:List (Nat × α)) (k:Nat),look (delL l k) = upd (look l) k none
 | [],k=>by funext t; simp [delL,look,upd]
 | (j,u) :: r,k=>by
   funext t
   simp only [delL]
   split
   ·rename_i h
    subst h
    rw [JOn r j]
    simp only [upd,look]
    by_cases h:t = j
    ·simp [h]
    ·simp [h,Ne.symm h]
   ·rename_i h1
    simp only [look]
    rw [JOn r k]
    by_cases h:j = t
    ·subst h; simp [upd,look,h1]
    ·by_cases h3:t = k
     ·subst h3; simp [upd,h]
     ·simp [upd,h,h3,look]
theorem JAn {α:Type} {ks:List Nat} : ∀ {l:List (Nat × α)} {t:Nat} {x:α},look (keepL ks l) t = some x → look l t = some x
 | [],_,_,h=>h
 | (j,u) :: r,t,x,h=>by
   simp only [keepL] at h
   split at h
   ·simp only [look] at h ⊢
    split at h
    ·rename_i e; rw [if_pos e]; exact h
    ·rename_i e; rw [if_neg e]; exact JAn h
   ·rename_i hj
    simp only [look]
    have hk:=JAn h
    split
    ·rename_i e
     subst e
     exfalso
     have:∀ (l:List (Nat × α)),look (keepL ks l) j = none:=by
      intro l
      induction l with
      | nil=>rfl
      | cons p l ih =>
        obtain ⟨k,w⟩:=p
        simp only [keepL]
        split
        ·rename_i hk'
         simp only [look]
         rw [if_neg (fun e:k = j=>hj (e ▸ hk')),ih]
        ·exact ih
     rw [this] at h
     cases h
    ·exact hk
def setL (fr:List (Nat × AV)) (d:Option Nat) (av:AV) : List (Nat × AV) := match d with | none => fr | some d => insL fr d av
def upsL : List (Nat × Loc) → List (Nat × Option Loc) → List (Nat × Loc)
 | m,[]=>m
 | m,(k,some c) :: us=>upsL (insL m k c) us
 | m,(k,none) :: us=>upsL (delL m k) us
theorem JHI : ∀ (us:List (Nat × Option Loc)) (m:List (Nat × Loc)),look (upsL m us) = ups (look m) us
 | [],_=>rfl
 | (k,some c) :: us,m=>by rw [upsL,JHI us,JJl]; rfl
 | (k,none) :: us,m=>by rw [upsL,JHI us,JOn]; rfl
theorem JZi (fr:List (Nat × AV)) (d:Option Nat) (av:AV) : look (setL fr d av) = setd (look fr) d av := by
 cases d with
 | none=>rfl
 | some d=>exact JJl fr d av
structure SA where
 fr:List (Nat × AV)
 m:List (Nat × Loc)
 clk:Nat
def Rel (w0:World) (Ws I0:Nat → Prop) (G:Nat → Option AV) (C0:Ctx) (N:Nat) (S:SA) (a:Act) (w:World) : Prop :=
 2 ≤ S.clk ∧ ∃ C,C.w = w ∧ Mid w0 Ws I0 G C0 N S.clk S.clk [] (look S.fr,look S.m) a C
def Weak (S S0:SA) : Prop := ∀ (w0:World) (Ws I0:Nat → Prop) (G:Nat → Option AV) (C0:Ctx) (N:Nat) (a:Act) (w:World),Rel w0 Ws I0 G C0 N S a w → Rel w0 Ws I0 G C0 N S0 a w
theorem Weak.refl (S:SA) : Weak S S := fun _ _ _ _ _ _ _ _ h => h
theorem Weak.trans {S S1 S2:SA} (h:Weak S S1) (k:Weak S1 S2) : Weak S S2 := fun _ _ _ _ _ _ _ _ hr => k _ _ _ _ _ _ _ _ (h _ _ _ _ _ _ _ _ hr)
structure Less (S S0:SA) : Prop where
 fr:∀ t x,look S0.fr t = some x → look S.fr t = some x
 m:∀ l c,look S0.m l = some c → look S.m l = some c
 clk:S.clk ≤ S0.clk
theorem Less.weak {S S0:SA} (hw:Less S S0) : Weak S S0 := by
 intro w0 Ws I0 G C0 N a w h
 obtain ⟨h2,C,rfl,hm⟩:=h
 have hmm:C.m = look S.m:=hm.m
 obtain ⟨hle,hwr⟩:=hm.wr.restrict (m':=look S0.m) (fun l c hc=>by rw [hmm]; exact hw.m l c hc)
 refine ⟨Nat.le_trans h2 hw.clk,{ C with m:=look S0.m },rfl,hwr,rfl,fun t x hx=>?_,hm.gr.mono hle,hm.le.trans hle,hm.size,hm.defers,(fun i hi=>by cases hi),fun k hk=>Nat.lt_of_lt_of_le (hm.top k hk) hw.clk,hm.one⟩
 exact (hm.fr.mono hle) t x (hw.fr t x hx)
theorem Weak.drop {fr:List (Nat × AV)} {k:Nat} {v:Loc} {m:List (Nat × Loc)} {c:Nat} (h:look m k = none) : Weak ⟨fr,(k,v) :: m,c⟩ ⟨fr,m,c⟩ := by
 refine Less.weak ⟨fun _ _ h=>h,fun l c' hl=>?_,Nat.le_refl _⟩
 simp only [look]
 rw [if_neg (fun e=>by subst e; rw [h] at hl; cases hl)]
 exact hl
inductive CCode where
 | skip
 | region (cs:List COper) (draw:Option (List Nat × List (Nat × Nat))) (keep:List Nat)
 | seq (a b:CCode)
 | cond (c:COpd) (x y:CCode)
 | block (id:Nat) (c:CCode)
 | loop (c:CCode)
 | ghost (c:CCode)
 | exit (id:Nat)
 | ret
 | scope (l:Nat) (c rest:CCode)
 | label (l:Nat)
 | goto (l:Nat)
 | head (h:HOp) (d:Nat) (x:COpd) (cs:List COper) (keep:List Nat)
section
variable (P:Program) (G:Nat → Option AV)
def opEW (g:Nat) (op:COp) (d:Nat) (vals:List AV) (m:List (Nat × Loc)) (K:AV → List (Nat × Option Loc) → List Nat → Prop) : Prop :=
 match op with
 | .call f=>∃ L args M keep res M' T,CallOk P G f vals (look m) g (nbOf d) L args M keep res M' T ∧ K (renA L (nbOf d) g res) (callUs (nbOf d) g L M keep M' T) (T ++ nameSrcs L)
 | op=>match step op vals (look m) g d with
   | some (av,us)=>K av us (reads op vals)
   | none=>False
def opW (g:Nat) (c:COper) (fr:List (Nat × AV)) (m:List (Nat × Loc)) (K:AV → List (Nat × Option Loc) → List Nat → Prop) : Prop :=
 match wantV (look fr) c.guard with
 | some false=>K (.tup []) [] []
 | some true=>match evs G (look fr) c.xs with
   | some vals=>opEW P G g c.op (c.dst.getD 0) vals m K
   | none=>False
 | none=>False
def regW (clk:Nat) : List COper → Nat → List (Nat × AV) → List (Nat × Loc) → Log → (List (Nat × AV) → List (Nat × Loc) → Log → Prop) → Prop
 | [],_,fr,m,lg,K=>K fr m lg
 | c :: r,i,fr,m,lg,K=>opW P G (clk + i) c fr m fun av us rd=>regW clk r (i + 1) (setL fr c.dst av) (upsL m us) (lg ++ [(i,rd,us.map (·.1))]) K
def thenA (next:SA → Prop) (Q:Exit → SA → Prop) : Exit → SA → Prop
 | .normal,S=>next S
 | e,S=>Q e S
def inBlockA (id:Nat) (Q:Exit → SA → Prop) : Exit → SA → Prop
 | .exit id',S=>if id' = id then Q .normal S else Q (.exit id') S
 | e,S=>Q e S
def jumpA (l:Nat) (J:SA → Prop) (Q:Exit → SA → Prop) : Exit → SA → Prop
 | .goto l',S=>l' = l ∧ J S
 | e,S=>Q e S
def noGotoA (Q:Exit → SA → Prop) : Exit → SA → Prop
 | .goto _,_=>False
 | e,S=>Q e S
def awp : CCode → (Exit → SA → Prop) → SA → Prop
 | .skip,Q,S=>Q .normal S
 | .region cs dr keep,Q,S=>regW P G S.clk cs 0 S.fr S.m [] fun fr m lg=>(match dr with | none=>True | some (_,D)=>dynOk lg D) ∧ Q .normal ⟨keepL keep fr,m,S.clk + cs.length⟩
 | .seq a b,Q,S=>awp a (thenA (awp b Q) Q) S
 | .cond c x y,Q,S=>∃ b,ev G (look S.fr) c = some (.v (.bool b)) ∧ (if b = true then awp x Q S else awp y Q S)
 | .block id c,Q,S=>awp c (inBlockA id Q) S
 | .loop c,Q,S=>∃ (I:Nat → SA → Prop),(∃ n S0,Weak S S0 ∧ I n S0) ∧ ∀ n S',I n S' → awp c (thenA (fun S''=>∃ n' S3,Weak S'' S3 ∧ I n' S3 ∧ n' < n) Q) S'
 | .ghost c,Q,S=>∃ S0,Weak S S0 ∧ awp c Q S0
 | .exit id,Q,S=>Q (.exit id) S
 | .ret,Q,S=>Q .ret S
 | .scope l c rest,Q,S=>awp c (jumpA l (fun S'=>awp rest (noGotoA Q) S') Q) S
 | .label _,Q,S=>Q .normal S
 | .goto l,Q,S=>Q (.goto l) S
 | .head h d x cs keep,Q,S=>∃ it gi,ev G (look S.fr) x = some (.oref it gi false) ∧ headW h (look S.m) it gi fun av us=>regW P G S.clk cs 1 (insL S.fr d av) (upsL S.m us) [] fun fr m _=>Q .normal ⟨keepL keep fr,m,S.clk + (cs.length + 1)⟩
end
def chkHead (h:HOp) (o:Oper) (d:Nat) (x:COpd) (N:Nat) : Bool :=
 o.dst == some d && o.guard.isNone && decide (d < N) && (match h,o.op with | .next,.next y false=>chkOpd y x | .entry,.entry y=>chkOpd y x | _,_=>false)
def chkCode (P:Program) (N:Nat) : Code → CCode → Bool
 | c,.ghost x=>chkCode P N c x
 | .skip,.skip=>true
 | .region _ ops false,.region cs none _=>chkList P ops N ops.toList cs
 | .region _ ops true,.region cs (some (A,D)) _=>chkList P ops N ops.toList cs && ordOk cs A D 0 ops.toList cs
 | .seq a b,.seq x y=>chkCode P N a x && chkCode P N b y
 | .cond c a b,.cond d x y=>chkOpd c d && chkCode P N a x && chkCode P N b y
 | .block i a,.block j x=>i == j && chkCode P N a x
 | .loop a,.loop x=>chkCode P N a x
 | .exit i,.exit j=>i == j
 | .ret,.ret=>true
 | .label i,.label j=>i == j
 | .goto i,.goto j=>i == j
 | .region _ ops false,.head h d x cs _=>(match ops.toList with | o :: os=>chkHead h o d x N && chkList P ops N os cs | []=>false)
 | .scope c,.scope l x y=>chkCode P N c x && (match findLabel c l with | some rest=>chkCode P N rest y | none=>false)
 | _,_=>false
termination_by structural _ x => x
section
variable {P:Program} {w0:World} {Ws I0:Nat → Prop} {G:Nat → Option AV} {C0:Ctx} {N:Nat}
theorem J7k {g:Nat} {c:COper} {fr:List (Nat × AV)} {m:List (Nat × Loc)} {K:AV → List (Nat × Option Loc) → List Nat → Prop} (h:opW P G g c fr m K) :
 ∃ av us rd,OpR P G g c (look fr,look m) av us rd ∧ K av us rd:=by
 unfold opW at h
 split at h
 ·rename_i hw
  exact ⟨.tup [],[],[],.inl ⟨hw,rfl,rfl,rfl⟩,h⟩
 ·rename_i hw
  split at h
  ·rename_i vals hv
   suffices hs:∃ av us rd,OpE P G g c.op (c.dst.getD 0) vals (look m) av us rd ∧ K av us rd by
    obtain ⟨av,us,rd,h1,h2⟩:=hs
    exact ⟨av,us,rd,.inr ⟨hw,vals,hv,h1⟩,h2⟩
   unfold opEW at h
   split at h
   ·rename_i f hop
    obtain ⟨L,args,M,keep,res,M',T,h1,h2⟩:=h
    rw [hop]
    exact ⟨_,_,_,⟨L,args,M,keep,res,M',T,h1,rfl,rfl,rfl⟩,h2⟩
   ·rename_i hop
    split at h
    ·rename_i av us hst
     refine ⟨av,us,_,?_,h⟩
     revert hst hop
     cases c.op <;> first | exact fun hop hst=>⟨hst,rfl⟩ | exact fun hop=>absurd rfl (hop _)
    ·cases h
  ·cases h
 ·cases h
theorem JU7 {clk:Nat} : ∀ {cs:List COper} {i:Nat} {fr:List (Nat × AV)} {m:List (Nat × Loc)} {lg:Log} {K:List (Nat × AV) → List (Nat × Loc) → Log → Prop},regW P G clk cs i fr m lg K →
 ∃ fr' m' lg',RunL P G clk (num i cs) (look fr,look m) lg' (look fr',look m') ∧ K fr' m' (lg ++ lg')
 | [],i,fr,m,lg,K,h=>⟨fr,m,[],⟨rfl,rfl⟩,by simpa [regW] using h⟩
 | c :: r,i,fr,m,lg,K,h=>by
   simp only [regW] at h
   obtain ⟨av,us,rd,h1,h2⟩:=J7k h
   obtain ⟨fr',m',lg',h3,h4⟩:=JU7 h2
   refine ⟨fr',m',(i,rd,us.map (·.1)) :: lg',⟨av,us,rd,lg',h1,rfl,?_⟩,by simpa using h4⟩
   rw [JZi,JHI] at h3
   exact h3
theorem Rel.start {S:SA} {a:Act} {C:Ctx} {n:Nat} (h2:2 ≤ S.clk) (h:Mid w0 Ws I0 G C0 N S.clk S.clk [] (look S.fr,look S.m) a C) (rem:List Nat) : Mid w0 Ws I0 G C0 N S.clk (S.clk + n) rem (look S.fr,look S.m) a C :=
 ⟨h.wr,h.m,h.fr,h.gr,h.le,h.size,h.defers,fun i _ hu=>by have:=h.top _ hu; omega,fun k hk=>by have:=h.top k hk; omega,h.one⟩
theorem Rel.stop {S:SA} {fr':List (Nat × AV)} {m':List (Nat × Loc)} {a:Act} {C:Ctx} {n:Nat} (keep:List Nat) (h2:2 ≤ S.clk) (h:Mid w0 Ws I0 G C0 N S.clk (S.clk + n) [] (look fr',look m') a C) :
 Rel w0 Ws I0 G C0 N ⟨keepL keep fr',m',S.clk + n⟩ a C.w :=
 ⟨by simp only; omega,C,rfl,h.wr,h.m,fun t x hx=>h.fr t x (JAn hx),h.gr,h.le,h.size,h.defers,(fun i hi=>by cases hi),h.top,h.one⟩
theorem JHv (hmix:P.follows .mixedOrders = true) : ∀ {c:Code} {x:CCode} {Q:Exit → SA → Prop} {S:SA} {a:Act} {w:World},chkCode P N c x = true → awp P G x Q S → Rel w0 Ws I0 G C0 N S a w →
 c.wp P (fun e a w=>∃ S',Q e S' ∧ Rel w0 Ws I0 G C0 N S' a w) a w:=by
 intro c x
 induction x generalizing c with
 | skip =>
   intro Q S a w hc h hr
   cases c <;> simp only [chkCode,Bool.false_eq_true] at hc
   exact wp_skip ⟨S,h,hr⟩
 | exit id =>
   intro Q S a w hc h hr
   cases c <;> simp only [chkCode,Bool.false_eq_true] at hc
   simp only [beq_iff_eq] at hc
   subst hc
   exact wp_exit ⟨S,h,hr⟩
 | ret =>
   intro Q S a w hc h hr
   cases c <;> simp only [chkCode,Bool.false_eq_true] at hc
   exact wp_ret ⟨S,h,hr⟩
 | seq x y ihx ihy =>
   intro Q S a w hc h hr
   cases c <;> simp only [chkCode,Bool.false_eq_true] at hc
   simp only [Bool.and_eq_true] at hc
   refine wp_seq (wp_mono (ihx hc.1 h hr) ?_)
   rintro e a' w' ⟨S',h1,h2⟩
   cases e <;> first | exact ihy hc.2 h1 h2 | exact ⟨S',h1,h2⟩
 | cond t x y ihx ihy =>
   intro Q S a w hc h hr
   cases c <;> simp only [chkCode,Bool.false_eq_true] at hc
   simp only [Bool.and_eq_true] at hc
   obtain ⟨b,h1,h2⟩:=h
   obtain ⟨hk,C,rfl,hm⟩:=hr
   have hv:=ev_ok hm.fr hm.gr hc.1.1 h1
   refine wp_cond (t:=b) (JY3 hv) ?_
   cases b with
   | true=>exact ihx hc.1.2 (by simpa using h2) ⟨hk,C,rfl,hm⟩
   | false=>exact ihy hc.2 (by simpa using h2) ⟨hk,C,rfl,hm⟩
 | block id x ih =>
   intro Q S a w hc h hr
   cases c <;> simp only [chkCode,Bool.false_eq_true] at hc
   simp only [Bool.and_eq_true,beq_iff_eq] at hc
   obtain ⟨rfl,hc⟩:=hc
   refine wp_block (wp_mono (ih hc h hr) ?_)
   rintro e a' w' ⟨S',h1,h2⟩
   cases e <;> first
    | exact ⟨S',h1,h2⟩
    | (simp only [inBlockA] at h1
       simp only [Exit.inBlock]
       split at h1
       ·rename_i e; rw [if_pos e]; exact ⟨S',h1,h2⟩
       ·rename_i e; rw [if_neg e]; exact ⟨S',h1,h2⟩)
 | loop x ih =>
   intro Q S a w hc h hr
   cases c <;> simp only [chkCode,Bool.false_eq_true] at hc
   obtain ⟨I,⟨n0,S0,hw0,h0⟩,hI⟩:=h
   refine wp_loop_ghost (fun n a w=>∃ S,I n S ∧ Rel w0 Ws I0 G C0 N S a w) n0 ⟨S0,h0,hw0 _ _ _ _ _ _ _ _ hr⟩ ?_
   rintro n a' w' ⟨S',h1,h3⟩
   refine wp_mono (ih hc (hI n S' h1) h3) ?_
   rintro e a'' w'' ⟨S'',k1,k2⟩
   cases e <;> first
    | exact ⟨S'',k1,k2⟩
    | (obtain ⟨n',S3,q1,q2,q3⟩:=k1; exact ⟨n',q3,S3,q2,q1 _ _ _ _ _ _ _ _ k2⟩)
 | ghost x ih =>
   intro Q S a w hc h hr
   obtain ⟨S0,h1,h2⟩:=h
   have hc':chkCode P N c x = true:=by cases c <;> exact hc
   exact ih hc' h2 (h1 _ _ _ _ _ _ _ _ hr)
 | label l =>
   intro Q S a w hc h hr
   cases c <;> simp only [chkCode,Bool.false_eq_true] at hc
   exact wp_label ⟨S,h,hr⟩
 | goto l =>
   intro Q S a w hc h hr
   cases c <;> simp only [chkCode,Bool.false_eq_true] at hc
   simp only [beq_iff_eq] at hc
   subst hc
   exact wp_goto ⟨S,h,hr⟩
 | scope l x y ihx ihy =>
   intro Q S a w hc h hr
   cases c <;> simp only [chkCode,Bool.false_eq_true] at hc
   simp only [Bool.and_eq_true] at hc
   obtain ⟨hcx,hcy⟩:=hc
   split at hcy <;> first | (cases hcy; done) | skip
   rename_i rest hrest
   refine wp_scope_jumps l (fun a w=>∃ S',awp P G y (noGotoA Q) S' ∧ Rel w0 Ws I0 G C0 N S' a w) (fun _ _=>0) hrest ?_ ?_
   ·refine wp_mono (ihx hcx h hr) ?_
    rintro e a' w' ⟨S',h1,h2⟩
    cases e <;> first
     | exact ⟨S',h1,h2⟩
     | exact ⟨h1.1,S',h1.2,h2⟩
   ·rintro a' w' ⟨S',h1,h2⟩
    refine wp_mono (ihy hcy h1 h2) ?_
    rintro e a'' w'' ⟨S'',k1,k2⟩
    cases e <;> first
     | exact ⟨S'',k1,k2⟩
     | exact k1.elim
 | region cs dr keep =>
   intro Q S a w hc h hr
   cases c with
   | region id ops draw =>
     obtain ⟨hk,C,rfl,hm⟩:=hr
     simp only [awp] at h
     obtain ⟨fr',m',lg',h1,h2,h3⟩:=JU7 h
     simp only [List.nil_append] at h2
     cases draw with
     | false =>
       cases dr <;> simp only [chkCode,Bool.false_eq_true] at hc
       refine wp_region ?_
       have hlen:=(Jbj (i:=0) hc).1
       have hfst:(num 0 cs).map (·.1) = List.range ops.size:=by
        rw [JLf,List.range_eq_range',← hlen]; simp
       rw [← hfst]
       refine JWd (top:=S.clk + cs.length) (N:=N) (fun i c hi=>?_) (by rw [hfst]; exact List.nodup_range) (Rel.start hk hm _) h1 fun a' C' hm'=>?_
       ·have hg:=(JK7 hi).2
        simp only [Nat.sub_zero] at hg
        have hlt:=(List.getElem?_eq_some_iff.1 hg).1
        have hos:i < ops.size:=by simpa using (by omega:i < ops.toList.length)
        exact ⟨ops[i],Array.getElem?_eq_getElem hos,(Jbj hc).2 _ _ (by simp [hos]) hg,by omega,by omega⟩
       ·exact ⟨_,h3,Rel.stop keep hk hm'⟩
     | true =>
       cases dr with
       | none=>simp [chkCode] at hc
       | some AD =>
         obtain ⟨A,D⟩:=AD
         simp only [chkCode,Bool.and_eq_true] at hc
         refine wp_region_any hmix ?_
         have hm0:Mid w0 Ws I0 G C0 N S.clk (S.clk + cs.length) ((num 0 cs).map (·.1)) (look S.fr,look S.m) a C:=Rel.start hk hm _
         obtain ⟨hle,hwr⟩:=hm0.wr.world (w':={ C.w with drawn:=C.w.drawn + 1 }) ⟨rfl,rfl,rfl,Nat.le_refl _,fun _ _ _=>rfl⟩
         have hlen:=(Jbj (i:=0) hc.1).1
         have hlen':ops.size = cs.length:=by simpa using hlen
         have hfil:num 0 cs = (num 0 cs).filter (fun p=>!(Array.replicate ops.size false).getD p.1 true):=by
          refine (List.filter_eq_self.2 fun p hp=>?_).symm
          have hg:=(JK7 hp).2
          simp only [Nat.sub_zero] at hg
          have hlt:=(List.getElem?_eq_some_iff.1 hg).1
          simp [Array.getD,hlen',hlt]
         have hnlen:(num 0 cs).length = ops.size:=by
          have:=congrArg List.length (JLf 0 cs)
          simpa [hlen'] using this
         refine J1F (C0:=C0) (N:=N) (D:=D) (A:=A) (clk:=S.clk) (top:=S.clk + cs.length) (Ws:=Ws) (I0:=I0) (w0:=w0) hc.1 hc.2 (fun i hi=>⟨by omega,by omega⟩) (fun a' C' hm'=>⟨_,h3,Rel.stop keep hk hm'⟩) ops.size (Array.replicate ops.size false) (num 0 cs) _ a { C with w:={ C.w with drawn:=C.w.drawn + 1 } } lg' (by simp) hfil hnlen ?_ ?_ h2
          ⟨hwr,hm0.m,hm0.fr.mono hle,hm0.gr.mono hle,hm0.le.trans hle,hm0.size,hm0.defers,hm0.fresh,hm0.top,hm0.one⟩ h1
         ·intro j o hj
          exfalso
          simp [Array.getD] at hj
         ·rw [(JNv h1).2,JLf]
          exact List.nodup_range'
   | _=>cases dr <;> simp [chkCode] at hc
 | head hd d x cs keep =>
   intro Q S a w hc h hr
   cases c with
   | region id ops draw =>
     cases draw with
     | true=>simp [chkCode] at hc
     | false =>
       obtain ⟨hk,C,rfl,hm⟩:=hr
       obtain ⟨it,gi,hev,hhead⟩:=h
       simp only [chkCode] at hc
       split at hc <;> first | (cases hc; done) | skip
       rename_i o os hops
       simp only [Bool.and_eq_true] at hc
       obtain ⟨hh,hl⟩:=hc
       simp only [chkHead,Bool.and_eq_true,beq_iff_eq,decide_eq_true_eq,Option.isNone_iff_eq_none] at hh
       obtain ⟨⟨⟨hdst,hgd⟩,hdN⟩,hop⟩:=hh
       have hlen:=(Jbj (i:=0) hl).1
       have hsz:ops.size = os.length + 1:=by
        have:=congrArg List.length hops
        simpa using this
       have hget:∀ i,ops[i]? = (o :: os)[i]?:=fun i=>by rw [← Array.getElem?_toList,hops]
       refine wp_region ?_
       have hrng:List.range ops.size = 0 :: (num 1 cs).map (·.1):=by
        rw [hsz,JLf,← hlen,List.range_eq_range',List.range'_succ]
       rw [hrng,wpOps_cons]
       unfold wpOp
       rw [hget 0]
       simp only [List.getElem?_cons_zero]
       have hwant:Region.wanted o (yielded ops a.tmps) = true:=by
        unfold Region.wanted
        rw [hgd]
       rw [if_pos hwant]
       left
       have hmm:C.m = look S.m:=hm.m
       rw [← hmm] at hhead
       have hstep:∃ av us y C',(execOp a.eval o).run P C.w = .ok (.value y) C'.w ∧ SV C' av y ∧ C.Le C' ∧ WR w0 Ws I0 C' ∧ C'.m = ups C.m us ∧ (∀ k,C'.used k → C.used k) ∧
        regW P G S.clk cs 1 (insL S.fr d av) (upsL S.m us) [] fun fr m _=>Q .normal ⟨keepL keep fr,m,S.clk + (cs.length + 1)⟩:=by
        obtain ⟨dst,op,type,pos,after,guard⟩:=o
        cases hd with
        | next =>
          cases op <;> first | (cases hop; done) | skip
          rename_i y sb
          cases sb <;> first | (cases hop; done) | skip
          have hv:=ev_ok hm.fr hm.gr hop hev
          obtain ⟨av,us,y',C',h1,h2,h3,h4,h5,h6,h7⟩:=J11 (P:=P) (ty:=type) hm.wr hv hhead
          exact ⟨av,us,y',C',by simp [execOp,h1],h2,h3,h4,h5,h6,h7⟩
        | entry =>
          cases op <;> first | (cases hop; done) | skip
          rename_i y
          have hv:=ev_ok hm.fr hm.gr hop hev
          obtain ⟨av,us,y',C',h1,h2,h3,h4,h5,h6,h7⟩:=JYx (P:=P) hm.wr hv hhead
          exact ⟨av,us,y',C',by simp [execOp,h1],h2,h3,h4,h5,h6,h7⟩
       obtain ⟨av,us,y,C',hrun,hsv,hle,hwr,hcm,hus,hreg⟩:=hstep
       unfold Oper.wp
       rw [hrun]
       show wpOps P ops _ ((num 1 cs).map (·.1)) (a.put o.dst y) C'.w
       obtain ⟨fr',m',lg',h1,h2⟩:=JU7 hreg
       have hnl:∀ i c,(i,c) ∈ num 1 cs → ∃ o,ops[i]? = some o ∧ chkOper P ops N o c = true ∧ S.clk + i < S.clk + (cs.length + 1) ∧ S.clk + i ≠ 1:=by
        intro i c hi
        obtain ⟨hi1,hg⟩:=JK7 hi
        obtain ⟨j,rfl⟩:∃ j,i = j + 1:=⟨i - 1,by simp only at hi1; omega⟩
        simp only [Nat.add_sub_cancel] at hg
        have hlt:=(List.getElem?_eq_some_iff.1 hg).1
        have hlt':j < os.length:=by rw [hlen]; exact hlt
        have hoi:ops[j + 1]? = some os[j]:=by
         rw [hget (j + 1),List.getElem?_cons_succ]
         exact List.getElem?_eq_getElem hlt'
        exact ⟨_,hoi,(Jbj (i:=j) hl).2 _ _ (List.getElem?_eq_getElem hlt') hg,by omega,by omega⟩
       refine JWd (top:=S.clk + (cs.length + 1)) (N:=N) hnl (by rw [JLf]; exact List.nodup_range') ?_ h1 fun a' C'' hm'=>⟨_,h2,Rel.stop keep hk hm'⟩
       have hfr:=JYP (c:=⟨some d,.mov,[],none⟩) (N:=N) hle hm.fr (by simpa using hdN) hm.size hsv
       refine ⟨hwr,?_,?_,hm.gr.mono hle,hm.le.trans hle,by rw [JQk]; exact hm.size,by rw [JLt]; exact hm.defers,fun j _ hu=>?_,fun k hk'=>?_,fun h1=>hm.one (hus 1 h1)⟩
       ·rw [hcm,hmm,JHI]
       ·rw [JJl,hdst]
        exact hfr
       ·have:=hm.top _ (hus _ hu)
        omega
       ·have:=hm.top _ (hus _ hk')
        omega
   | _=>simp [chkCode] at hc
end
section
variable {P:Program} {G:Nat → Option AV}
theorem J0F {g:Nat} {c:COper} {fr:List (Nat × AV)} {m:List (Nat × Loc)} {K K':AV → List (Nat × Option Loc) → List Nat → Prop} (hk:∀ a b d,K a b d → K' a b d) (h:opW P G g c fr m K) : opW P G g c fr m K' := by
 unfold opW at *
 split at h
 ·exact hk _ _ _ h
 ·split at h
  ·unfold opEW at *
   split at h
   ·rename_i f hop
    obtain ⟨L,args,M,keep,res,M',T,h1,h2⟩:=h
    exact ⟨L,args,M,keep,res,M',T,h1,hk _ _ _ h2⟩
   ·rename_i hop
    split at h
    ·exact hk _ _ _ h
    ·cases h
  ·cases h
 ·cases h
theorem JKj {clk:Nat} : ∀ {cs:List COper} {i:Nat} {fr:List (Nat × AV)} {m:List (Nat × Loc)} {lg:Log} {K K':List (Nat × AV) → List (Nat × Loc) → Log → Prop},(∀ a b d,K a b d → K' a b d) → regW P G clk cs i fr m lg K → regW P G clk cs i fr m lg K'
 | [],_,_,_,_,_,_,hk,h=>hk _ _ _ h
 | _ :: _,_,_,_,_,_,_,hk,h=>J0F (fun _ _ _ h=>JKj hk h) h
theorem JNt : ∀ {x:CCode} {Q Q':Exit → SA → Prop} {S:SA},awp P G x Q S → (∀ e S,Q e S → Q' e S) → awp P G x Q' S := by
 intro x
 induction x with
 | skip=>intro Q Q' S h hq; exact hq _ _ h
 | exit id=>intro Q Q' S h hq; exact hq _ _ h
 | ret=>intro Q Q' S h hq; exact hq _ _ h
 | label l=>intro Q Q' S h hq; exact hq _ _ h
 | goto l=>intro Q Q' S h hq; exact hq _ _ h
 | region cs dr keep=>intro Q Q' S h hq; exact JKj (fun _ _ _ h=>⟨h.1,hq _ _ h.2⟩) h
 | head hd d x cs keep =>
   intro Q Q' S h hq
   obtain ⟨it,gi,h1,h2⟩:=h
   exact ⟨it,gi,h1,JPZ (fun _ _ h=>JKj (fun _ _ _ h=>hq _ _ h) h) h2⟩
 | seq a b iha ihb =>
   intro Q Q' S h hq
   refine iha h fun e S h=>?_
   cases e <;> first | exact ihb h hq | exact hq _ _ h
 | cond c x y ihx ihy =>
   intro Q Q' S h hq
   obtain ⟨b,h1,h2⟩:=h
   refine ⟨b,h1,?_⟩
   cases b
   ·exact ihy h2 hq
   ·exact ihx h2 hq
 | block id c ih =>
   intro Q Q' S h hq
   refine ih h fun e S h=>?_
   cases e <;> first
    | exact hq _ _ h
    | (simp only [inBlockA] at *
       split at h
       ·rename_i e; rw [if_pos e]; exact hq _ _ h
       ·rename_i e; rw [if_neg e]; exact hq _ _ h)
 | loop c ih =>
   intro Q Q' S h hq
   obtain ⟨I,h0,hI⟩:=h
   refine ⟨I,h0,fun n S' h1=>ih (hI n S' h1) fun e S h=>?_⟩
   cases e <;> first | exact h | exact hq _ _ h
 | ghost c ih =>
   intro Q Q' S h hq
   obtain ⟨S0,h1,h2⟩:=h
   exact ⟨S0,h1,ih h2 hq⟩
 | scope l c rest ihc ihr =>
   intro Q Q' S h hq
   refine ihc h fun e S h=>?_
   cases e <;> first
    | exact hq _ _ h
    | (refine ⟨h.1,ihr h.2 fun e S h=>?_⟩
       cases e <;> first | exact hq _ _ h | exact h)
end
end
section
open Go
inductive CRes where
 | tmp (t:Nat)
 | cell (t:Nat) (agg:Bool) (sz:Nat)
def chkRes (P:Program) : List ResultVar → List CRes → Bool
 | [],[]=>true
 | .tmp t :: rs,.tmp u :: cs=>t == u && chkRes P rs cs
 | .cell a t :: rs,.cell u agg sz :: cs=>a == u && tagg P t == some agg && tsz P t == some sz && aggOk agg sz && chkRes P rs cs
 | _,_=>false
def chkFn (P:Program) (f:Nat) (x:CCode) (rs:List CRes) (n:Nat) : Bool :=
 match P.funcs[f]? with
 | some fn=>match fn.body with
   | some code=>chkCode P fn.ntmps code x && chkRes P fn.results.toList rs && decide (n ≤ fn.ntmps)
   | none=>false
 | none=>false
def AV.isTup : AV → Bool
 | .tup _=>true
 | _=>false
def rawRes (fr:Nat → Option AV) (m:Nat → Option Loc) : List CRes → Option (List AV)
 | []=>some []
 | .tmp t :: rs=>(fr t).bind fun x=>if x.isTup = true then none else (rawRes fr m rs).map (x :: ·)
 | .cell t agg sz :: rs=>(fr t).bind fun p=>(loadA m agg sz p).bind fun x=>if x.isTup = true then none else (rawRes fr m rs).map (x :: ·)
def raw1 : List AV → AV
 | [x]=>x
 | xs=>.tup xs
def FitR (m:Nat → Option Loc) (L:Names) (raw want:AV) : Prop :=
 match want with
 | .tup ws=>match raw with
   | .tup rs=>FitL m L rs ws
   | _=>False
 | w=>Fit m L raw w
def touchR (m:Nat → Option Loc) (raw want:AV) : List Nat :=
 match want with
 | .tup ws=>match raw with
   | .tup rs=>touchL m rs ws
   | _=>[]
 | w=>touch m raw w
structure Ends (m:Nat → Option Loc) (raw res:AV) (M':List (Nat × Loc)) (L:Names) (T:List Nat) : Prop where
 fit:FitR m L raw res
 lent:∀ t ∈ touchR m raw res,t ∈ T
 st:Stamped (fun g=>g = 0 ∨ g = 1) res
 named:Named m L M' T (fun g=>g = 0 ∨ g = 1)
 old:∀ e ∈ M',e.2.gen = 0 → look L e.1 = some (some (e.1,0))
def postA (rs:List CRes) (res:AV) (M':List (Nat × Loc)) : Exit → SA → Prop := fun e S => (e = .normal ∨ e = .ret) ∧ ∃ xs L T,rawRes (look S.fr) (look S.m) rs = some xs ∧ Ends (look S.m) (raw1 xs) res M' L T
def argsL : Nat → List AV → List (Nat × AV)
 | _,[]=>[]
 | i,a :: as=>(i,a) :: argsL (i + 1) as
theorem JLg : ∀ {i:Nat} {as:List AV} {t:Nat} {x:AV},look (argsL i as) t = some x → i ≤ t ∧ as[t - i]? = some x
 | _,[],_,_,h=>by simp [argsL,look] at h
 | i,a :: as,t,x,h=>by
   simp only [argsL,look] at h
   split at h
   ·rename_i e
    subst e
    exact ⟨Nat.le_refl _,by simpa using h⟩
   ·rename_i e
    obtain ⟨h1,h2⟩:=JLg h
    refine ⟨by omega,?_⟩
    rw [show t - i = (t - (i + 1)) + 1 by omega,List.getElem?_cons_succ]
    exact h2
theorem JU5 {C:Ctx} : ∀ {as:List AV} {ys:List Value} {k:Nat} {x:AV},SVl C as ys → as[k]? = some x → ∃ y,ys[k]? = some y ∧ SV C x y
 | [],_,_,_,_,h=>by simp at h
 | a :: as,ys,0,x,h,hx=>by
   obtain ⟨y,r,rfl,h1,_⟩:=h
   simp only [List.getElem?_cons_zero,Option.some.injEq] at hx
   subst hx
   exact ⟨y,rfl,h1⟩
 | a :: as,ys,k + 1,x,h,hx=>by
   obtain ⟨y,r,rfl,_,h2⟩:=h
   obtain ⟨z,h3,h4⟩:=JU5 (k:=k) h2 (by simpa using hx)
   exact ⟨z,by simpa using h3,h4⟩
theorem JK6 {C:Ctx} : ∀ {as:List AV} {ys:List Value},SVl C as ys → ys.length = as.length
 | [],_,h=>by simp only [SVl] at h; simp [h]
 | _ :: as,_,h=>by
   obtain ⟨y,r,rfl,_,h2⟩:=h
   simp [JK6 h2]
theorem J0i {C:Ctx} {a:AV} {x:Value} (h:SV C a x) (ht:a.isTup = false) : SV1 C a x := by
 cases a <;> first | exact h | (simp [AV.isTup] at ht)
section
variable {P:Program} {w0:World} {Ws I0:Nat → Prop} {C:Ctx} {fr:Nat → Option AV}
theorem Jvt (hw:WR w0 Ws I0 C) {a:Act} (hf:FR C fr a) : ∀ {rs:List ResultVar} {cs:List CRes} {xs:List AV},chkRes P rs cs = true → rawRes fr C.m cs = some xs →
 ∃ ys,(rs.mapM (m:=Sem) fun | .tmp t=>pure (a.tmps.getD t undef) | .cell b t=>do loadVar t (← asAddr (a.tmps.getD b undef))).run P C.w = .ok ys C.w ∧ SVs C xs ys
 | [],[],xs,_,h=>by
   simp only [rawRes,Option.some.injEq] at h
   subst h
   exact ⟨[],by simp,rfl⟩
 | .tmp t :: rs,.tmp u :: cs,xs,hc,h=>by
   simp only [chkRes,Bool.and_eq_true,beq_iff_eq] at hc
   obtain ⟨rfl,hc⟩:=hc
   simp only [rawRes,Option.bind_eq_some_iff] at h
   obtain ⟨x,hx,h⟩:=h
   split at h
   ·cases h
   ·rename_i ht
    simp only [Option.map_eq_some_iff] at h
    obtain ⟨xs',h1,rfl⟩:=h
    obtain ⟨y,hy,hv⟩:=hf t x hx
    obtain ⟨ys,k1,k2⟩:=Jvt hw hf hc h1
    refine ⟨y :: ys,?_,y,ys,rfl,J0i hv (by simpa using ht),k2⟩
    have hgd:a.tmps.getD t undef = y:=by rw [Array.getD_eq_getD_getElem?,hy]; rfl
    simp only [List.mapM_cons,Sem.run_bind,Sem.run_pure,Result.andThen_ok,hgd,k1]
 | .cell b t :: rs,.cell u agg sz :: cs,xs,hc,h=>by
   simp only [chkRes,Bool.and_eq_true,beq_iff_eq] at hc
   obtain ⟨⟨⟨⟨rfl,ha⟩,hs⟩,hag⟩,hc⟩:=hc
   simp only [rawRes,Option.bind_eq_some_iff] at h
   obtain ⟨p,hp,x,hx,h⟩:=h
   split at h
   ·cases h
   ·rename_i ht
    simp only [Option.map_eq_some_iff] at h
    obtain ⟨xs',h1,rfl⟩:=h
    obtain ⟨y,hy,hv⟩:=hf b p hp
    obtain ⟨ys,k1,k2⟩:=Jvt hw hf hc h1
    unfold loadA at hx
    obtain ⟨⟨z,off⟩,h2,h3⟩:=Option.bind_eq_some_iff.1 hx
    obtain ⟨bb,base,cs',q1,q2,rfl⟩:=JWl hw hv h2
    obtain ⟨s1,s2,s3,s4⟩:=JSc z off x cs' h3 q1
    have hr:=JOY (P:=P) ha hs s4 (JmG hag) (q2.part off sz)
    have hval:=JAk s1 s3 (fun e=>by rw [s4]; exact JmG hag e)
    refine ⟨valOf agg ((cs'.drop off).take sz) :: ys,?_,_,ys,rfl,J0i hval (by simpa using ht),k2⟩
    have hgd:a.tmps.getD b undef = .pointer (some ⟨bb,base + off,none⟩):=by rw [Array.getD_eq_getD_getElem?,hy]; rfl
    have hal:(asAddr (.pointer (some ⟨bb,base + off,none⟩))).run P C.w = .ok ⟨bb,base + off,none⟩ C.w:=by simp [asAddr]
    simp only [List.mapM_cons,Sem.run_bind,Sem.run_pure,Result.andThen_ok,hgd,hal,hr,k1]
 | [],_ :: _,_,hc,_=>by simp [chkRes] at hc
 | .tmp _ :: _,[],_,hc,_=>by simp [chkRes] at hc
 | .cell .. :: _,[],_,hc,_=>by simp [chkRes] at hc
 | .tmp _ :: _,.cell .. :: _,_,hc,_=>by simp [chkRes] at hc
 | .cell .. :: _,.tmp _ :: _,_,hc,_=>by simp [chkRes] at hc
theorem JP7 : ∀ {as:List AV} {ys:List Value},SVs C as ys → ys.length = as.length
 | [],_,h=>by simp only [SVs] at h; simp [h]
 | _ :: as,_,h=>by
   obtain ⟨y,r,rfl,_,h2⟩:=h
   simp [JP7 h2]
theorem JO4 (hw:WR w0 Ws I0 C) {a:Act} (hf:FR C fr a) {fn:Func} {cs:List CRes} {xs:List AV} (hc:chkRes P fn.results.toList cs = true) (h:rawRes fr C.m cs = some xs) :
 ∃ y,(results fn a.tmps).run P C.w = .ok y C.w ∧ SV C (raw1 xs) y:=by
 obtain ⟨ys,h1,h2⟩:=Jvt hw hf hc h
 have hl:=JP7 h2
 have hrun:(fn.results.mapM (m:=Sem) fun | .tmp t=>pure (a.tmps.getD t undef) | .cell b t=>do loadVar t (← asAddr (a.tmps.getD b undef))).run P C.w = .ok ys.toArray C.w:=by
  rw [Array.mapM_eq_mapM_toList]
  simp only [Sem.run_map,h1,Result.andThen_ok]
 refine ⟨if h:ys.toArray.size = 1 then ys.toArray[0] else .tuple ys.toArray,?_,?_⟩
 ·unfold results
  rw [Sem.run_bind]
  refine (congrArg (fun r=>Result.andThen r _) hrun).trans ?_
  simp only [Result.andThen_ok,Sem.run_pure]
 ·match xs,ys,h2,hl with
  | [x],[y],h2,_ =>
    obtain ⟨y',r,e,h3,_⟩:=h2
    obtain ⟨rfl,rfl⟩:=(by simpa using e:y = y' ∧ [] = r)
    simpa [raw1] using JV2 h3
  | [],[],h2,_=>exact ⟨#[],rfl,rfl⟩
  | x :: x' :: xs,y :: y' :: ys,h2,_=>exact ⟨(y :: y' :: ys).toArray,by simp,h2⟩
theorem JYN {C':Ctx} {L:Names} {T:List Nat} (hw:WR w0 Ws I0 C) (hs:Seen C C' L T) : ∀ {wants raws:List AV} {ys:List Value},FitL C.m L raws wants → (∀ l ∈ touchL C.m raws wants,l ∈ T) →
 StampedL C'.used wants → SVs C raws ys → SVs C' wants ys
 | [],raws,ys,h,_,_,k=>by simp only [FitL] at h; subst h; exact k
 | w :: ws,raws,ys,h,ht,hst,k=>by
   simp only [FitL] at h
   obtain ⟨r,rs',rfl,h1,h2⟩:=h
   obtain ⟨y,ys',e,k1,k2⟩:=k
   simp only [touchL,StampedL] at ht hst
   have hv:=JRp hw hs h1 (fun t htt=>ht t (List.mem_append_left _ htt)) hst.1 (JV2 k1)
   have hnt:w.isTup = false:=by cases w <;> first | rfl | (simp [Fit] at h1)
   exact ⟨y,ys',e,J0i hv hnt,JYN hw hs h2 (fun t htt=>ht t (List.mem_append_right _ htt)) hst.2 k2⟩
theorem JVc {C':Ctx} {L:Names} {T:List Nat} (hw:WR w0 Ws I0 C) (hs:Seen C C' L T) {raw want:AV} {x:Value} (h:FitR C.m L raw want) (ht:∀ l ∈ touchR C.m raw want,l ∈ T) (hst:Stamped C'.used want) (k:SV C raw x) : SV C' want x := by
 cases want with
 | tup ws =>
   simp only [FitR] at h
   split at h <;> first | (cases h; done) | skip
   obtain ⟨xs,e,k⟩:=k
   simp only [touchR,Stamped] at ht hst
   exact ⟨xs,e,JYN hw hs h ht hst k⟩
 | _=>exact JRp hw hs h ht hst k
end
theorem JSM {P:Program} {G:Nat → Option AV} {f:Nat} {x:CCode} {rs:List CRes} {args:List AV} {M:List (Nat × Loc)} {keep:Bool} {res:AV} {M':List (Nat × Loc)} (hmix:P.follows .mixedOrders = true) (hc:chkFn P f x rs args.length = true)
 (hg:goodM keep M' M' = true ∧ goodA keep M' res = true ∧ (M'.map (·.1)).Nodup) (h:awp P G x (postA rs res M') ⟨argsL 0 args,M,2⟩):Meets P G f args M keep res M':=by
 refine ⟨hg,fun C Ws ys hw hm hu hG hv=>?_⟩
 unfold chkFn at hc
 split at hc <;> first | (cases hc; done) | skip
 rename_i fn hf
 split at hc <;> first | (cases hc; done) | skip
 rename_i code hb
 simp only [Bool.and_eq_true,decide_eq_true_eq] at hc
 obtain ⟨⟨hcode,hres⟩,hn⟩:=hc
 have hlen:=JK6 hv
 refine calls_of_wp hf hb ?_
 have hrel:Rel C.w Ws C.I G C fn.ntmps ⟨argsL 0 args,M,2⟩ { tmps:=ys.toArray ++ Array.replicate (fn.ntmps - ys.toArray.size) undef,defers:=[] } C.w:=by
  refine ⟨Nat.le_refl _,C,rfl,hw,hm,fun t z hz=>?_,hG,Ctx.Le.refl C,by simp; omega,rfl,(fun i hi=>by cases hi),fun k hk=>by have:=(hu k).1 hk; simp only; omega,fun h1=>by have:=(hu 1).1 h1; omega⟩
  obtain ⟨_,h1⟩:=JLg hz
  rw [Nat.sub_zero] at h1
  obtain ⟨y,h2,h3⟩:=JU5 hv h1
  refine ⟨y,?_,h3⟩
  have hlt:=(List.getElem?_eq_some_iff.1 h2).1
  rw [Array.getElem?_append_left (by simpa using hlt)]
  simpa using h2
 refine wp_mono (JHv hmix hcode h hrel) ?_
 rintro e a w ⟨S,⟨he,xs,L,T,hraw,hend⟩,hk,C1,rfl,hmid⟩
 have hm1:C1.m = look S.m:=hmid.m
 rw [← hm1] at hraw hend
 obtain ⟨y,hrun,hval⟩:=JO4 hmid.wr hmid.fr hres hraw
 have hdef:=hmid.defers
 suffices hR:∃ y' C',y = y' ∧ C'.w = C1.w ∧ C.Le C' ∧ WR C.w Ws C.I C' ∧ C'.m = look M' ∧ SV C' res y' by
  obtain ⟨y',C',rfl,h1,h2,h3,h4,h5⟩:=hR
  rcases he with rfl | rfl <;> exact ⟨hdef,y,hrun,y,C',rfl,h1,h2,h3,h4,h5⟩
 let U:Nat → Prop:=fun g=>C1.used g ∨ g = 0 ∨ g = 1
 have hst':∀ (a:AV),Stamped (fun g=>g = 0 ∨ g = 1) a → Stamped U a:=by
  have key:(∀ (a:AV),Stamped (fun g=>g = 0 ∨ g = 1) a → Stamped U a):=fun a=>Jbd (fun g h=>.inr h) a
  exact key
 have hnamed:Named C1.m L M' T U:=⟨hend.named.nd,hend.named.fit,hend.named.lent,hend.named.ns,hend.named.apart,fun e he=>by
  have:=hend.named.st e he
  cases hq:e.2 with
  | var g w=>rw [hq] at this; exact ⟨.inr this.1,hst' w this.2⟩
  | rows g sz ws=>rw [hq] at this; exact ⟨.inr this.1,J1 (fun g h=>.inr h) ws this.2⟩
  | ob g q w=>rw [hq] at this; exact ⟨.inr this.1,hst' w this.2⟩⟩
 have hle:C1.Le (reCtx C1 L M' T U):=by
  refine ⟨fun g hg=>.inl hg,fun k hk=>.inl hk,fun _ _=>rfl,fun l c' hc' hu'=>?_⟩
  have hmem:=Jbh hc'
  have hgE:=Jvu hg.1 hmem
  have hgen:c'.gen = 0:=by
   cases c' with
   | var g w =>
     simp only [goodE,Bool.and_eq_true,Bool.or_eq_true,beq_iff_eq] at hgE
     rcases hgE.1 with h | h
     ·exact h
     ·subst h; exact absurd hu' hmid.one
   | rows g sz ws =>
     simp only [goodE,Bool.and_eq_true,beq_iff_eq] at hgE
     obtain ⟨rfl,_⟩:=hgE
     exact absurd hu' hmid.one
   | ob g q w =>
     simp only [goodE,Bool.and_eq_true,Bool.or_eq_true,beq_iff_eq] at hgE
     rcases hgE.1 with h | h
     ·exact h
     ·subst h; exact absurd hu' hmid.one
  have hold:=hend.old _ hmem hgen
  simp only at hold
  have hfit:=hnamed.fit _ hmem
  cases c' with
  | rows g sz ws =>
    simp only [Loc.gen] at hgen
    subst hgen
    simp [goodE] at hgE
  | var g w =>
    simp only [Loc.gen] at hgen
    subst hgen
    obtain ⟨l2,g2,raw,h1,h2,_⟩:=hfit
    simp only at h1
    rw [hold] at h1
    obtain ⟨rfl,rfl⟩:=(by simpa using h1:l = l2 ∧ 0 = g2)
    refine ⟨_,h2,rfl,by simp [reCtx,src,hold],fun b _ cur _ hcur=>⟨cur,hcur,rfl⟩⟩
  | ob g q w =>
    simp only [Loc.gen] at hgen
    subst hgen
    obtain ⟨l2,g2,raw,h1,h2,_⟩:=hfit
    simp only at h1
    rw [hold] at h1
    obtain ⟨rfl,rfl⟩:=(by simpa using h1:l = l2 ∧ 0 = g2)
    refine ⟨_,h2,⟨rfl,rfl⟩,by simp [reCtx,src,hold],fun b _ cur _ hcur=>⟨cur,hcur,rfl⟩⟩
 have hwr:WR C.w Ws C.I (reCtx C1 L M' T U):=by
  refine hnamed.wr hmid.wr (fun k hk=>.inl (hmid.wr.imm0 k hk)) (fun l c b _ h2 h3=>(hmid.wr.own l c b h2 h3).2.2) (fun k hk=>?_) hmid.wr.os hmid.wr.tape hmid.wr.output hmid.wr.size hmid.wr.block
  rcases hk with hk | ⟨t,_,ct,hct,hbt⟩
  ·exact (hmid.wr.imm k hk).2
  ·exact .inr ((hmid.wr.own t ct k hct hbt).2.2)
 exact ⟨y,reCtx C1 L M' T U,rfl,rfl,hmid.le.trans hle,hwr,rfl,JVc hmid.wr hnamed.seen hend.fit hend.lent (hst' res hend.st) hval⟩
end
section
open Go
inductive Kont where
 | seq (b:CCode)
 | blk (id:Nat)
 | scp (l:Nat) (r:CCode)
 | nog
def evB : Option AV → Option Bool
 | some (.v (.bool b))=>some b
 | _=>none
def wantB : Option AV → Bool → Option Bool
 | some (.v (.bool x)),b=>some (x == b)
 | some (.tup []),_=>some false
 | _,_=>none
@[simp] theorem JWE (x b:Bool) : wantB (some (.v (.bool x))) b = some (x == b) := (rfl)
@[simp] theorem J6L (b:Bool) : wantB (some (.tup [])) b = some false := (rfl)
@[simp] theorem J8T (b:Bool) : evB (some (.v (.bool b))) = some b := (rfl)
section
variable (P:Program) (G:Nat → Option AV) (Q:Exit → SA → Prop)
def unK : List Kont → Exit → SA → Prop
 | []=>Q
 | .seq b :: k=>thenA (awp P G b (unK k)) (unK k)
 | .blk id :: k=>inBlockA id (unK k)
 | .scp l r :: k=>jumpA l (fun S'=>awp P G r (noGotoA (unK k)) S') (unK k)
 | .nog :: k=>noGotoA (unK k)
def go (c:CCode) (k:List Kont) (S:SA) : Prop := awp P G c (unK P G Q k) S
def goX (e:Exit) (k:List Kont) (S:SA) : Prop := unK P G Q k e S
def goR (clk:Nat) (cs:List COper) (i:Nat) (fr:List (Nat × AV)) (m:List (Nat × Loc)) (lg:Log) (dr:Option (List Nat × List (Nat × Nat))) (keep:List Nat) (n:Nat) (k:List Kont) : Prop :=
 regW P G clk cs i fr m lg fun fr m lg=>(match dr with | none=>True | some (_,D)=>dynOk lg D) ∧ goX P G Q .normal k ⟨keepL keep fr,m,clk + n⟩
def goV (o:Option (List AV)) (op:COp) (d:Option Nat) (clk:Nat) (r:List COper) (i:Nat) (fr:List (Nat × AV)) (m:List (Nat × Loc)) (lg:Log) (dr:Option (List Nat × List (Nat × Nat))) (keep:List Nat) (n:Nat) (k:List Kont) : Prop :=
 match o with
 | some vals=>opEW P G (clk + i) op (d.getD 0) vals m fun av us rd=>goR P G Q clk r (i + 1) (setL fr d av) (upsL m us) (lg ++ [(i,rd,us.map (·.1))]) dr keep n k
 | none=>False
def goS (o:Option (AV × List (Nat × Option Loc))) (rd:List Nat) (d:Option Nat) (clk:Nat) (r:List COper) (i:Nat) (fr:List (Nat × AV)) (m:List (Nat × Loc)) (lg:Log) (dr:Option (List Nat × List (Nat × Nat))) (keep:List Nat) (n:Nat) (k:List Kont) : Prop :=
 match o with
 | some (av,us)=>goR P G Q clk r (i + 1) (setL fr d av) (upsL m us) (lg ++ [(i,rd,us.map (·.1))]) dr keep n k
 | none=>False
def goG (x:Option Bool) (d:Option Nat) (op:COp) (xs:List COpd) (clk:Nat) (r:List COper) (i:Nat) (fr:List (Nat × AV)) (m:List (Nat × Loc)) (lg:Log) (dr:Option (List Nat × List (Nat × Nat))) (keep:List Nat) (n:Nat) (k:List Kont) : Prop :=
 match x with
 | some x=>if x = true then goV P G Q (evs G (look fr) xs) op d clk r i fr m lg dr keep n k else goR P G Q clk r (i + 1) (setL fr d (.tup [])) m (lg ++ [(i,[],[])]) dr keep n k
 | none=>False
def goC (x:Option Bool) (a b:CCode) (k:List Kont) (S:SA) : Prop :=
 match x with
 | some x=>if x = true then go P G Q a k S else go P G Q b k S
 | none=>False
end
section
variable {P:Program} {G:Nat → Option AV} {Q:Exit → SA → Prop}
theorem JKJ {c:CCode} {S:SA} (h:go P G Q c [] S) : awp P G c Q S := h
@[simp] theorem go_skip (k:List Kont) (S:SA) : go P G Q .skip k S = goX P G Q .normal k S := (rfl)
@[simp] theorem go_ret (k:List Kont) (S:SA) : go P G Q .ret k S = goX P G Q .ret k S := (rfl)
@[simp] theorem go_exit (id:Nat) (k:List Kont) (S:SA) : go P G Q (.exit id) k S = goX P G Q (.exit id) k S := (rfl)
@[simp] theorem go_label (l:Nat) (k:List Kont) (S:SA) : go P G Q (.label l) k S = goX P G Q .normal k S := (rfl)
@[simp] theorem go_goto (l:Nat) (k:List Kont) (S:SA) : go P G Q (.goto l) k S = goX P G Q (.goto l) k S := (rfl)
@[simp] theorem go_seq (a b:CCode) (k:List Kont) (S:SA) : go P G Q (.seq a b) k S = go P G Q a (.seq b :: k) S := (rfl)
@[simp] theorem go_block (id:Nat) (c:CCode) (k:List Kont) (S:SA) : go P G Q (.block id c) k S = go P G Q c (.blk id :: k) S := (rfl)
@[simp] theorem go_scope (l:Nat) (c r:CCode) (k:List Kont) (S:SA) : go P G Q (.scope l c r) k S = go P G Q c (.scp l r :: k) S := (rfl)
theorem go_region (cs:List COper) (dr:Option (List Nat × List (Nat × Nat))) (keep:List Nat) (k:List Kont) (fr:List (Nat × AV)) (m:List (Nat × Loc)) (clk:Nat) :
 go P G Q (.region cs dr keep) k ⟨fr,m,clk⟩ = goR P G Q clk cs 0 fr m [] dr keep cs.length k:=rfl
class Reg (cs:List COper) (as:outParam (List COper)) (n:outParam Nat) : Prop where
 eq:cs = as
 len:cs.length = n
@[simp] theorem go_reg (cs as:List COper) (n:Nat) [r:Reg cs as n] (dr:Option (List Nat × List (Nat × Nat))) (keep:List Nat) (k:List Kont) (fr:List (Nat × AV)) (m:List (Nat × Loc)) (clk:Nat) :
 go P G Q (.region cs dr keep) k ⟨fr,m,clk⟩ = goR P G Q clk as 0 fr m [] dr keep n k:=by
 rw [go_region,r.len]
 have:=r.eq
 subst this
 rfl
@[simp] theorem go_cond (c:COpd) (x y:CCode) (k:List Kont) (fr:List (Nat × AV)) (m:List (Nat × Loc)) (clk:Nat) : go P G Q (.cond c x y) k ⟨fr,m,clk⟩ = goC P G Q (evB (ev G (look fr) c)) x y k ⟨fr,m,clk⟩ := by
 apply propext
 show (∃ b,ev G (look fr) c = some (.v (.bool b)) ∧ _) ↔ _
 constructor
 ·rintro ⟨b,h1,h2⟩
  rw [h1]
  exact h2
 ·intro h
  cases hq:evB (ev G (look fr) c) with
  | none=>rw [hq] at h; exact h.elim
  | some b =>
    rw [hq] at h
    refine ⟨b,?_,h⟩
    unfold evB at hq
    split at hq
    ·rename_i b' e; rw [e]; simpa using hq
    ·cases hq
def Nxt {α:Type} (inv:Nat → α → Prop) (st:Nat → α → Nat → SA) (j:Nat) (S:SA) : Prop := ∃ a c,Weak S (st j a c) ∧ inv j a
theorem go_up {c:CCode} {k:List Kont} {S:SA} {α:Type} (n:Nat) (inv:Nat → α → Prop) (st:Nat → α → Nat → SA) (a0:α) (c0:Nat) (hw:Weak S (st 0 a0 c0)) (h0:inv 0 a0)
 (h:∀ j a c',j < n → inv j a → go P G (thenA (Nxt inv st (j + 1)) (unK P G Q k)) c [] (st j a c')) (hend:∀ a c',inv n a → go P G (thenA (fun _=>False) (unK P G Q k)) c [] (st n a c')):go P G Q (.loop c) k S:=by
 refine ⟨fun q S=>∃ j a c,j ≤ n ∧ q = n - j ∧ inv j a ∧ S = st j a c,⟨n,_,hw,0,a0,c0,Nat.zero_le _,rfl,h0,rfl⟩,?_⟩
 rintro q S' ⟨j,a,c',hj,rfl,hi,rfl⟩
 rcases Nat.lt_or_ge j n with hlt | hge
 ·refine JNt (h j a c' hlt hi) ?_
  rintro e S'' h1
  cases e <;> first | exact h1 | skip
  obtain ⟨a1,c1,h2,h3⟩:=h1
  exact ⟨_,_,h2,⟨j + 1,a1,c1,hlt,rfl,h3,rfl⟩,by omega⟩
 ·have:j = n:=by omega
  subst this
  refine JNt (hend a c' hi) ?_
  rintro e S'' h1
  cases e <;> first | exact h1 | exact h1.elim
def NxtW {α:Type} (μ:α → Nat) (inv:α → Prop) (st:α → Nat → SA) (n:Nat) (S:SA) : Prop := ∃ a c,Weak S (st a c) ∧ inv a ∧ μ a < n
theorem go_wh {c:CCode} {k:List Kont} {S:SA} {α:Type} (μ:α → Nat) (inv:α → Prop) (st:α → Nat → SA) (a0:α) (c0:Nat) (hw:Weak S (st a0 c0)) (h0:inv a0)
 (h:∀ a c',inv a → go P G (thenA (NxtW μ inv st (μ a)) (unK P G Q k)) c [] (st a c')):go P G Q (.loop c) k S:=by
 refine ⟨fun q S=>∃ a c,q = μ a ∧ inv a ∧ S = st a c,⟨_,_,hw,a0,c0,rfl,h0,rfl⟩,?_⟩
 rintro q S' ⟨a,c',rfl,hi,rfl⟩
 refine JNt (h a c' hi) ?_
 rintro e S'' h1
 cases e <;> first | exact h1 | skip
 obtain ⟨a1,c1,h2,h3,h4⟩:=h1
 exact ⟨_,_,h2,⟨a1,c1,rfl,h3,rfl⟩,h4⟩
theorem Weak.keep (ks:List Nat) (fr:List (Nat × AV)) (m:List (Nat × Loc)) (c:Nat) : Weak ⟨fr,m,c⟩ ⟨fr,keepL ks m,c⟩ := Less.weak ⟨fun _ _ h=>h,fun _ _ h=>JAn h,Nat.le_refl _⟩
theorem Nxt.keep {α:Type} {inv:Nat → α → Prop} {st:Nat → α → Nat → SA} {j:Nat} {fr:List (Nat × AV)} {m:List (Nat × Loc)} {c:Nat} (ks:List Nat) (a:α) (hi:inv j a) (h:⟨fr,keepL ks m,c⟩ = st j a c) : Nxt inv st j ⟨fr,m,c⟩ := ⟨a,c,h ▸ Weak.keep ks fr m c,hi⟩
theorem Nxt.weak {α:Type} {inv:Nat → α → Prop} {st:Nat → α → Nat → SA} {j:Nat} {S S0:SA} (hw:Weak S S0) (h:Nxt inv st j S0) : Nxt inv st j S := by
 obtain ⟨a,c,h1,h2⟩:=h
 exact ⟨a,c,hw.trans h1,h2⟩
@[simp] theorem J8f (a b:CCode) (k:List Kont) (S:SA) : goC P G Q (some true) a b k S = go P G Q a k S := (rfl)
@[simp] theorem J7w (a b:CCode) (k:List Kont) (S:SA) : goC P G Q (some false) a b k S = go P G Q b k S := (rfl)
@[simp] theorem J9n (e:Exit) (S:SA) : goX P G Q e [] S = Q e S := (rfl)
@[simp] theorem J9t (b:CCode) (k:List Kont) (S:SA) : goX P G Q .normal (.seq b :: k) S = go P G Q b k S := (rfl)
@[simp] theorem J4W (b:CCode) (k:List Kont) (S:SA) : goX P G Q .ret (.seq b :: k) S = goX P G Q .ret k S := (rfl)
@[simp] theorem J20 (b:CCode) (k:List Kont) (id:Nat) (S:SA) : goX P G Q (.exit id) (.seq b :: k) S = goX P G Q (.exit id) k S := (rfl)
@[simp] theorem J2f (b:CCode) (k:List Kont) (l:Nat) (S:SA) : goX P G Q (.goto l) (.seq b :: k) S = goX P G Q (.goto l) k S := (rfl)
@[simp] theorem J89 (id:Nat) (k:List Kont) (S:SA) : goX P G Q .normal (.blk id :: k) S = goX P G Q .normal k S := (rfl)
@[simp] theorem J3i (id:Nat) (k:List Kont) (S:SA) : goX P G Q .ret (.blk id :: k) S = goX P G Q .ret k S := (rfl)
@[simp] theorem J2y (id l:Nat) (k:List Kont) (S:SA) : goX P G Q (.goto l) (.blk id :: k) S = goX P G Q (.goto l) k S := (rfl)
@[simp] theorem J2E (id:Nat) (k:List Kont) (S:SA) : goX P G Q (.exit id) (.blk id :: k) S = goX P G Q .normal k S := by
 show (if id = id then _ else _) = _
 rw [if_pos rfl]; rfl
@[simp] theorem J1T (id id':Nat) (k:List Kont) (S:SA) (h:id' ≠ id) : goX P G Q (.exit id') (.blk id :: k) S = goX P G Q (.exit id') k S := by
 show (if id' = id then _ else _) = _
 rw [if_neg h]; rfl
@[simp] theorem J80 (l:Nat) (r:CCode) (k:List Kont) (S:SA) : goX P G Q .normal (.scp l r :: k) S = goX P G Q .normal k S := (rfl)
@[simp] theorem J3Z (l:Nat) (r:CCode) (k:List Kont) (S:SA) : goX P G Q .ret (.scp l r :: k) S = goX P G Q .ret k S := (rfl)
@[simp] theorem J2b (l id:Nat) (r:CCode) (k:List Kont) (S:SA) : goX P G Q (.exit id) (.scp l r :: k) S = goX P G Q (.exit id) k S := (rfl)
@[simp] theorem J24 (l:Nat) (r:CCode) (k:List Kont) (S:SA) : goX P G Q (.goto l) (.scp l r :: k) S = go P G Q r (.nog :: k) S := by
 show (l = l ∧ _) = _
 simp only [true_and]; rfl
@[simp] theorem J88 (k:List Kont) (S:SA) : goX P G Q .normal (.nog :: k) S = goX P G Q .normal k S := (rfl)
@[simp] theorem J3A (k:List Kont) (S:SA) : goX P G Q .ret (.nog :: k) S = goX P G Q .ret k S := (rfl)
@[simp] theorem J2R (id:Nat) (k:List Kont) (S:SA) : goX P G Q (.exit id) (.nog :: k) S = goX P G Q (.exit id) k S := (rfl)
@[simp] theorem J2j (next:SA → Prop) (S:SA) : thenA next Q .normal S = next S := (rfl)
@[simp] theorem J5f (next:SA → Prop) (id:Nat) (S:SA) : thenA next Q (.exit id) S = Q (.exit id) S := (rfl)
@[simp] theorem J7b (next:SA → Prop) (S:SA) : thenA next Q .ret S = Q .ret S := (rfl)
@[simp] theorem J9o (k:List Kont) (e:Exit) (S:SA) : unK P G Q k e S = goX P G Q e k S := (rfl)
section
variable (clk i n:Nat) (r:List COper) (fr:List (Nat × AV)) (m:List (Nat × Loc)) (lg:Log) (dr:Option (List Nat × List (Nat × Nat))) (keep:List Nat) (k:List Kont)
@[simp] theorem J84 : goR P G Q clk [] i fr m lg none keep n k = goX P G Q .normal k ⟨keepL keep fr,m,clk + n⟩ := by simp [goR,regW]
@[simp] theorem J2P (A:List Nat) (D:List (Nat × Nat)) : goR P G Q clk [] i fr m lg (some (A,D)) keep n k = (dynOk lg D ∧ goX P G Q .normal k ⟨keepL keep fr,m,clk + n⟩) := (rfl)
@[simp] theorem J8B (d:Option Nat) (op:COp) (xs:List COpd) : goR P G Q clk (⟨d,op,xs,none⟩ :: r) i fr m lg dr keep n k = goV P G Q (evs G (look fr) xs) op d clk r i fr m lg dr keep n k := by
 unfold goR goV
 simp only [regW,opW,wantV]
 cases evs G (look fr) xs <;> rfl
@[simp] theorem J6w (d:Option Nat) (op:COp) (xs:List COpd) (t:Nat) (b:Bool) : goR P G Q clk (⟨d,op,xs,some (t,b)⟩ :: r) i fr m lg dr keep n k = goG P G Q (wantB (look fr t) b) d op xs clk r i fr m lg dr keep n k := by
 unfold goR goG
 simp only [regW,opW,wantV]
 cases h:look fr t with
 | none=>rfl
 | some v =>
   cases v with
   | v y =>
     cases y with
     | bool x =>
       simp only [JWE]
       cases hx:x == b
       ·rfl
       ·simp only [goV]
        cases evs G (look fr) xs <;> rfl
     | _=>rfl
   | tup as =>
     cases as with
     | nil=>rfl
     | cons a as=>rfl
   | _=>rfl
@[simp] theorem J9y (d:Option Nat) (op:COp) (xs:List COpd) : goG P G Q (some true) d op xs clk r i fr m lg dr keep n k = goV P G Q (evs G (look fr) xs) op d clk r i fr m lg dr keep n k := by simp [goG]
@[simp] theorem J9e (d:Option Nat) (op:COp) (xs:List COpd) : goG P G Q (some false) d op xs clk r i fr m lg dr keep n k = goR P G Q clk r (i + 1) (setL fr d (.tup [])) m (lg ++ [(i,[],[])]) dr keep n k := (rfl)
@[simp] theorem J8K {op:COp} (h:∀ f,op ≠ .call f) (vals:List AV) (d:Option Nat) : goV P G Q (some vals) op d clk r i fr m lg dr keep n k = goS P G Q (step op vals (look m) (clk + i) (d.getD 0)) (reads op vals) d clk r i fr m lg dr keep n k := by
 unfold goV goS
 cases op <;> first
  | (exact absurd rfl (h _))
  | (simp only [opEW]; all_goals (split <;> simp_all))
@[simp] theorem J8J (av:AV) (us:List (Nat × Option Loc)) (rd:List Nat) (d:Option Nat) : goS P G Q (some (av,us)) rd d clk r i fr m lg dr keep n k = goR P G Q clk r (i + 1) (setL fr d av) (upsL m us) (lg ++ [(i,rd,us.map (·.1))]) dr keep n k := (rfl)
@[simp] theorem J70 (rd:List Nat) (d:Option Nat) : goS P G Q none rd d clk r i fr m lg dr keep n k = False := (rfl)
@[simp] theorem J8N (op:COp) (d:Option Nat) : goV P G Q none op d clk r i fr m lg dr keep n k = False := (rfl)
end
end
section
variable {P:Program} {G:Nat → Option AV} {Q:Exit → SA → Prop}
def stampsA (ns:List Int) : List AV := ns.map fun n => .v (.int .i64 n)
theorem JpI : ∀ ns : List Int,intsOf .i64 (stampsA ns) = some ns
 | []=>rfl
 | n :: ns=>by
   show intsOf .i64 (.v (.int .i64 n) :: stampsA ns) = _
   simp [intsOf,JpI ns]
theorem JSB (ns:List Int) (n:Int) : stampsA ns ++ [.v (.int .i64 n)] = stampsA (ns ++ [n]) := by simp [stampsA]
@[simp] theorem J4e (k v:AV) (n:Int) : bornOf (entA k v n) = some n := (rfl)
@[simp] theorem JYV (k v:AV) (n:Int) : entK (entA k v n) = k := (rfl)
@[simp] theorem J7j (k v:AV) (n:Int) : entV (entA k v n) = v := (rfl)
@[simp] theorem J7c (k v:AV) (n:Int) : entB (entA k v n) = .v (.int .i64 n) := (rfl)
theorem go_head {h:HOp} {d:Nat} {x:COpd} {cs as:List COper} {n:Nat} [r:Reg cs as n] {keep:List Nat} {k:List Kont} {fr:List (Nat × AV)} {m:List (Nat × Loc)} {clk it gi:Nat} (hx:ev G (look fr) x = some (.oref it gi false))
 (hh:headW h (look m) it gi fun av us=>goR P G Q clk as 1 (insL fr d av) (upsL m us) [] none keep (n + 1) k):go P G Q (.head h d x cs keep) k ⟨fr,m,clk⟩:=by
 refine ⟨it,gi,hx,JPZ (fun av us hr=>?_) hh⟩
 obtain ⟨rfl,rfl⟩:=r
 exact JKj (fun _ _ _ h=>h.2) hr
theorem go_next {d:Nat} {x:COpd} {cs as:List COper} {n:Nat} [r:Reg cs as n] {keep:List Nat} {k:List Kont} {fr:List (Nat × AV)} {m:List (Nat × Loc)} {clk it gi l g:Nat} {a b c:Int} {ns:List Int} {ka va:Bool} {ks vs:Nat} {es:List AV}
 (hx:ev G (look fr) x = some (.oref it gi false)) (h1:look m it = some (.ob gi .iter (.node [.oref l g true,.v (.int .i64 a),.v (.int .i64 b),.node (stampsA ns)]))) (h3:look m l = some (.ob g (.map ka ks va vs) (.node [.node es,.v (.int .i64 c)])))
 (h4:allEnt ks vs es = true) (h5:a ≤ b) (h6:∀ e ∈ es,∃ n,bornOf e = some n ∧ n < a)
 (hover:(∀ e ∈ es,∃ n ∈ ns,bornOf e = some n) → goR P G Q clk as 1 (insL fr d (.tup [.v (.bool false)])) m [] none keep (n + 1) k)
 (hnext:∀ (e:AV) (i:Int),e ∈ es → bornOf e = some i → i ∉ ns → goR P G Q clk as 1 (insL fr d (.tup [.v (.bool true),.top,.top])) (insL m it (.ob gi .iter (.node [.oref l g true,.v (.int .i64 a),.v (.int .i64 c),.node (stampsA (ns ++ [i]))]))) [] none keep (n + 1) k) :
 go P G Q (.head .next d x cs keep) k ⟨fr,m,clk⟩:=by
 refine go_head hx ⟨l,g,a,b,stampsA ns,ns,ka,ks,va,vs,es,c,h1,JpI ns,h3,h4,h5,h6,fun q=>hover q,fun e i q1 q2 q3=>?_⟩
 have hb:entB e = .v (.int .i64 i):=by
  unfold bornOf at q2
  split at q2
  ·rename_i z hz; rw [hz,Option.some.inj q2]
  ·cases q2
 rw [hb,JSB]
 exact hnext e i q1 q2 q3
theorem go_entry {d:Nat} {x:COpd} {cs as:List COper} {n:Nat} [r:Reg cs as n] {keep:List Nat} {k:List Kont} {fr:List (Nat × AV)} {m:List (Nat × Loc)} {clk it gi l g:Nat} {a c i:Int} {ns:List Int} {ka va:Bool} {ks vs:Nat} {es:List AV} (e:AV)
 (hx:ev G (look fr) x = some (.oref it gi false)) (h1:look m it = some (.ob gi .iter (.node [.oref l g true,.v (.int .i64 a),.v (.int .i64 c),.node (stampsA (ns ++ [i]))]))) (h3:look m l = some (.ob g (.map ka ks va vs) (.node [.node es,.v (.int .i64 c)])))
 (h4:allEnt ks vs es = true) (h5:∀ e ∈ es,∃ n,bornOf e = some n) (h6:findB i es = some e) (h7:(entK e).isAgg = ka) (h8:(entV e).isAgg = va) (h9:aggOk ka ks = true) (h10:aggOk va vs = true)
 (hgo:goR P G Q clk as 1 (insL fr d (.tup [entK e,entV e])) m [] none keep (n + 1) k):go P G Q (.head .entry d x cs keep) k ⟨fr,m,clk⟩ :=
 go_head hx ⟨l,g,a,c,stampsA (ns ++ [i]),ns ++ [i],ka,ks,va,vs,es,c,h1,JpI _,h3,h4,rfl,h5,i,e,by simp,h6,h7,h8,h9,h10,hgo⟩
end
end
end Go.Proofs.YtlajjoekbcjfnaaGreatDoor.WL
