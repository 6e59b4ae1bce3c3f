import Derived.Test.YtlajjoekbcjfnaaGreatDoorWm17
namespace Go.Proofs.YtlajjoekbcjfnaaGreatDoor.WL
set_option linter.all false
section
open Go
attribute [local irreducible] sha comp hb checkK idxOf
theorem J0c {b:Bytes} (h:decE b = 0) (hk:(decM b).kind = 4) : (decM b).rep.Fits := by
 unfold decE at h
 split at h
 ·cases h
 rename_i hl
 split at h
 case isFalse=>cases h
 rename_i hd
 have e:decM b = (Rd.of b).mail:=by unfold decM; rw [if_neg hl,if_pos hd]
 rw [e] at hk ⊢
 simp only [Rd.done,Bool.and_eq_true,Bool.not_eq_true',decide_eq_true_eq] at hd
 have h1:(bodyRd' ((Rd.of b).inn 1 9) ((Rd.of b).inn' 1 9)).bad = false:=hd.1
 have hkk:=(JRb _ _ h1).2.2.2
 have h8:(Rd.of b).inn 1 9 = 4:=by
  have:(Rd.of b).mail.kind = (Rd.of b).inn 1 9:=hkk
  omega
 rw [h8] at h1
 have e2:(Rd.of b).mail = bodyRd 4 ((Rd.of b).inn' 1 9):=by
  show bodyRd ((Rd.of b).inn 1 9) _ = _
  rw [h8]
 rw [e2]
 exact (JLk.one _ h1).2.2.2.1
theorem J1K : decE [] ≠ 0 := by decide +kernel
attribute [local irreducible] decM decE encE
structure FitC (c:Cli) : Prop where
 told:∀ p ∈ c.told,p.2.Fits
 rep:c.opn = false → c.rep.Fits
theorem JT5 {c:Cli} (k:Int) {a:Rep} (h:FitC c) (ha:a.Fits) : FitC (answerC c k a) := by
 unfold answerC
 split
 ·exact h
 ·have hp:∀ p ∈ putT c.told k a,p.2.Fits:=fun p hp=>by
   rcases JKz hp with hp | rfl
   ·exact h.told p hp
   ·exact ha
  unfold countC
  split
  ·exact ⟨hp,fun _=>ha⟩
  ·exact ⟨hp,h.rep⟩
theorem JZl {c:Cli} (k:Int) {f:Bytes} (h:FitC c) (hf:¬ (decE f = 0 ∧ (decM f).kind = 8)) : FitC (hearC c k f) := by
 rcases JSi (c:=c) (k:=k) hf with e | ⟨h1,h2,e⟩
 ·rw [e]; exact h
 ·rw [e]; exact JT5 k h (J0c h1 h2)
structure InvB (first:Conf) (right:List Rep) (c:Cli) (told:List Bool) (i:Nat) : Prop where
 ok:c.Ok
 bel:Bel right told c
 fit:FitC c
 opn:c.opn = true
 num:c.req.num = 1
 first:c.first = first
 len:told.length = right.length
 base:c.base + c.told.length ≤ i
theorem InvB.stay {first:Conf} {right:List Rep} {c:Cli} {told:List Bool} {i:Nat} (h:InvB first right c told i) : InvB first right c told (i + 1) :=
 ⟨h.ok,h.bel,h.fit,h.opn,h.num,h.first,h.len,Nat.le_succ_of_le h.base⟩
def ansR (a:Rep) : Bytes := encB (ansM (rightA a))
theorem JZc {a:Rep} (h:ansR a ≠ []) : encE (ansM (rightA a)) = 0 := by
 unfold ansR encB at h
 split at h
 ·assumption
 ·exact absurd rfl h
theorem JYo {a:Rep} (h:encE (ansM (rightA a)) = 0) : ansR a ≠ [] := by
 unfold ansR encB
 rw [if_pos h,(enc4 (m:=ansM (rightA a)) rfl).1]
 intro e
 have:=congrArg List.length e
 simp at this
theorem J0z {a:Rep} (h:decE (ansR a) = 0) : encE (ansM (rightA a)) = 0 := by
 refine JZc fun e=>?_
 rw [e] at h
 exact J1K h
theorem InvB.tell {first:Conf} {right:List Rep} {c:Cli} {told:List Bool} {i k:Nat} {a:Rep} (h:InvB first right c told i) (ha:right[k]? = some a) : InvB first right c (told.set k (decide (ansR a ≠ []))) i := by
 have hlt:k < told.length:=by
  have:=(List.getElem?_eq_some_iff.1 ha).1
  rw [h.len]; exact this
 refine ⟨h.ok,h.bel.mono (fun j hj=>?_) (fun j hj=>?_),h.fit,h.opn,h.num,h.first,by rw [List.length_set]; exact h.len,h.base⟩
 ·rw [List.getElem?_set]
  by_cases e:k = j
  ·subst e
   rw [if_pos rfl,if_pos hlt]
   obtain ⟨b,h1,h2⟩:=h.bel.real k hj
   rw [ha] at h1
   obtain rfl:=Option.some.inj h1
   simp [JYo h2]
  ·rw [if_neg e]; exact hj
 ·rw [List.getElem?_set] at hj
  by_cases e:k = j
  ·subst e
   rw [if_pos rfl,if_pos hlt] at hj
   exact ⟨a,ha,JZc (by simpa using hj)⟩
  ·rw [if_neg e] at hj
   exact h.bel.real j hj
theorem JUc {a:Rep} (ha:a.In) (hn:a.vals.length ≤ 300) (ht:tot a.vals ≤ 131072) : (rightA a).Fits := by
 refine ⟨by simp [rightA,W64],by simp [rightA,W64],ha.code,by show a.vals.length < _; omega,fun v hv=>?_⟩
 have h1:∀ (l:List Bytes),v ∈ l → v.length ≤ tot l:=by
  intro l
  induction l with
  | nil=>intro h; cases h
  | cons x l ih =>
    intro h
    have e:tot (x :: l) = x.length + tot l:=by simp [tot]
    rcases List.mem_cons.1 h with rfl | h
    ·omega
    ·have:=ih h
     omega
 have:=h1 a.vals hv
 omega
theorem InvB.hear {first:Conf} {right:List Rep} {c:Cli} {told:List Bool} {i:Nat} (h:InvB first right c told i) (hi:i < 60) (hR:∀ a ∈ right,(rightA a).Fits) (k:Int) {f:Bytes} (hl:f.length ≤ 900000) (hf:¬ (decE f = 0 ∧ (decM f).kind = 8))
 (hb:((faults first.ms.length:Nat):Int) ≤ idxOf first.ms k → ∃ (j:Nat) (a:Rep),told[j]? = some (decide (ansR a ≠ [])) ∧ right[j]? = some a ∧ f = ansR a) :
 (hearC c k f).Ok ∧ (hearC c k f).req.num = 1 ∧ (((hearC c k f).opn = true ∧ InvB first right (hearC c k f) told (i + 1)) ∨ ((hearC c k f).opn = false ∧ ∃ (j:Nat) (a:Rep),told[j]? = some true ∧ right[j]? = some a ∧ (hearC c k f).rep = rightA a)):=by
 have hbase:=h.base
 obtain ⟨hs,hlen,_⟩:=JP9 c k f
 have hok:=JVL k h.ok (by omega) hl
 have hfit:=JZl k h.fit hf
 refine ⟨hok,by rw [hs.req]; exact h.num,?_⟩
 have hb':((faults c.first.ms.length:Nat):Int) ≤ idxOf c.first.ms k → decE f = 0 → (decM f).kind = 4 → Told right told (decM f).rep:=fun h1 h2 _=>by
  rw [h.first] at h1
  obtain ⟨j,a,k1,k2,rfl⟩:=hb h1
  have he:=J0z h2
  refine ⟨j,a,?_,k2,J3H he⟩
  rw [k1]
  simp [JYo he]
 rcases J1E h.bel h.opn k f hf hb' with ⟨h1,h2⟩ | ⟨h1,j,a,k1,k2,k3⟩
 ·exact .inl ⟨h1,hok,h2,hfit,h1,by rw [hs.req]; exact h.num,by rw [hs.first]; exact h.first,h.len,by rw [hs.base]; omega⟩
 ·exact .inr ⟨h1,j,a,k1,k2,(Rep.bytes_inj (hfit.rep h1) (hR a (List.mem_of_getElem? k2))).1 k3⟩
end
section
open Go
set_option maxHeartbeats 4000000
attribute [local irreducible] sha comp hb checkK decM decE encB encE idxOf Conf.good Req.good
structure InvO (c:Cli) (was:Rep) (done:Bool) (num i:Nat) : Prop where
 ok:c.Ok
 once:Once c
 nq:c.req.num = (num:Int)
 le:num ≤ i
 base:c.base + c.told.length ≤ i
 calm:c.first.calm
 done:done = true → c.opn = false ∧ num ≠ 0 ∧ was = c.rep
theorem InvO.succ {c:Cli} {was:Rep} {done:Bool} {num i:Nat} (h:InvO c was done num i) : InvO c was done num (i + 1) := ⟨h.ok,h.once,h.nq,Nat.le_succ_of_le h.le,Nat.le_succ_of_le h.base,h.calm,h.done⟩
theorem InvO.hear {c:Cli} {was:Rep} {done:Bool} {num i:Nat} (h:InvO c was done num i) (hi:i < 60) (k:Int) {f:Bytes} (hf:f.length ≤ 900000) : InvO (hearC c k f) was done num (i + 1) := by
 have hb:=h.base
 obtain ⟨s,hl,ho⟩:=JP9 c k f
 exact ⟨JVL k h.ok (by omega) hf,ho h.once,by rw [s.req]; exact h.nq,Nat.le_succ_of_le h.le,by rw [s.base]; omega,by rw [s.first]; exact h.calm,fun hd=>by
  obtain ⟨h1,h2,h3⟩:=h.done hd
  obtain ⟨k1,k2⟩:=s.shut h1
  exact ⟨k1,h2,h3.trans k2.symm⟩⟩
theorem InvO.none {c:Cli} {was:Rep} {done:Bool} {num i:Nat} (h:InvO c was done num i) : InvO c Rep.zero false num i := ⟨h.ok,h.once,h.nq,h.le,h.base,h.calm,fun hd=>by cases hd⟩
theorem InvO.some {c:Cli} {was:Rep} {done:Bool} {num i:Nat} (h:InvO c was done num i) (ho:c.opn = false) (hn:num ≠ 0) : InvO c c.rep true num i := ⟨h.ok,h.once,h.nq,h.le,h.base,h.calm,fun _=>⟨ho,hn,rfl⟩⟩
theorem JYr (a:Rep) : a.bytes.length = 32 + 4 * a.vals.length + tot a.vals := by
 have h:=JOw a.vals
 have e:lenSum a.vals = tot a.vals:=rfl
 unfold Rep.bytes
 rw [List.length_append,Jh,h,e]
 simp only [List.length_cons,List.length_nil]
 omega
theorem JY7 (a:Rep) : (encB (ansM a)).length ≤ 262144 := by
 unfold encB
 split
 ·rename_i h
  exact (JOB h).2.1
 ·simp
theorem JjR (a:Rep) : a.same a = true := by simp [Rep.same]
end
end Go.Proofs.YtlajjoekbcjfnaaGreatDoor.WL
