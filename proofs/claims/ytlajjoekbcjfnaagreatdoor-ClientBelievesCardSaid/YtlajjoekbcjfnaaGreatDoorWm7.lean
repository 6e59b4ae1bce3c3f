import Derived.Test.YtlajjoekbcjfnaaGreatDoorWc3
namespace Go.Proofs.YtlajjoekbcjfnaaGreatDoor.WL
set_option linter.all false
section
open Go
set_option maxHeartbeats 4000000
def rdM (g:Nat) (r:Rd) : List (Nat × Loc) := [(1000,.var 0 (.node [.row 2000 1 g r.pre.length r.s.length,.v (.bool r.bad)])),(2000,.rows g 1 (B (r.pre ++ r.s)))]
def Rd.at_ (r:Rd) (k:Int) : Nat := if r.ok k = true then r.pre.length else 0
theorem Rd.at_le (r:Rd) (k:Int) : r.at_ k + (r.got k).length = (r.skip k).pre.length := by
 unfold Rd.at_ Rd.got Rd.skip
 split <;> simp [Rd.fault]
theorem Rd.at_drop (r:Rd) (k:Int) : ((r.skip k).pre ++ (r.skip k).s).drop (r.at_ k) = r.got k ++ (r.skip k).s := by
 unfold Rd.at_ Rd.got Rd.skip
 split <;> simp [Rd.fault]
theorem Rd.at_get (r:Rd) (k:Int) (j:Nat) (h:j < (r.got k).length) : ((r.skip k).pre ++ (r.skip k).s)[r.at_ k + j]? = some (r.got k)[j] := by
 rw [← List.getElem?_drop,Rd.at_drop,List.getElem?_append_left h,List.getElem?_eq_getElem h]
theorem JWI {G:Nat → Option AV} (bs:Bytes) (h:fitsB bs.length 1) : Meets Tryz.prog G JvM [.sl 1 (B bs)] [] true (.ptr 1000 1 0) [(1000,.var 1 (.node [.row 2000 1 1 0 bs.length,.v (.bool false)])),(2000,.rows 1 1 (B bs))] := by
 refine Jc mix JVm ⟨by simp,by simp,by simp⟩ ?_
 simp [h]
 refine Jb (.inr rfl) ?_
 simp
theorem J2 {G:Nat → Option AV} (r:Rd) : Meets Tryz.prog G Jj [.ptr 1000 0 0] (rdM 0 r) true (.v (.bool !r.bad)) (rdM 1 r) := by
 refine Jc mix JHn ⟨by simp [rdM],by simp,by simp [rdM]⟩ ?_
 simp [rdM]
 refine Jb (.inr rfl) ?_
 simp
theorem Jn4 {G:Nat → Option AV} (r:Rd) (k:Int) :
 Meets Tryz.prog G JR [.ptr 1000 0 0,.v (.int .i64 k)] (rdM 0 r) true (.row 2000 1 1 (r.at_ k) (r.got k).length) (rdM 1 (r.skip k)):=by
 refine Jc mix JH3 ⟨by simp [rdM],by simp [rdM],by simp [rdM]⟩ ?_
 cases hok:r.ok k with
 | true =>
   have h:=hok
   simp only [Rd.ok,Bool.and_eq_true,Bool.not_eq_true',decide_eq_true_eq] at h
   obtain ⟨⟨h1,h2⟩,h3⟩:=h
   have h4:¬ (k < 0):=by omega
   have h5:¬ ((r.s.length:Int) < k):=by omega
   obtain ⟨n,rfl⟩:=Int.eq_ofNat_of_zero_le h2
   have h6:n ≤ r.s.length:=by omega
   simp [rdM,h1,h3,h4,h5,h6,Rd.at_,Rd.got,Rd.skip,hok]
   refine Jb (.inr rfl) ?_
   simp [h6]
 | false =>
   have h:r.bad = true ∨ k < 0 ∨ (r.s.length:Int) < k:=by
    simp only [Rd.ok] at hok
    cases hb:r.bad
    ·simp [hb] at hok; omega
    ·simp
   cases hb:r.bad
   ·simp [hb] at h
    by_cases h0:k < 0
    ·simp [rdM,hb,h0,Rd.at_,Rd.got,Rd.skip,hok]
     refine Jb (.inr rfl) ?_
     simp [Rd.fault]
    ·have h1:(r.s.length:Int) < k:=by omega
     simp [rdM,hb,h0,h1,Rd.at_,Rd.got,Rd.skip,hok]
     refine Jb (.inr rfl) ?_
     simp [Rd.fault]
   ·simp [rdM,hb,Rd.at_,Rd.got,Rd.skip,hok]
    refine Jb (.inr rfl) ?_
    simp [Rd.fault]
end
section
open Go
set_option maxHeartbeats 4000000
def rdC (r:Rd) : List (Nat × Loc) := [(1000,.var 0 (.node [.row 1072000 1 5 r.pre.length r.s.length,.v (.bool r.bad)])),(1072000,.rows 5 1 (B (r.pre ++ r.s)))]
theorem Jox {G:Nat → Option AV} (r:Rd) : Meets Tryz.prog G JF [.ptr 1000 0 0] (rdM 0 r) true (.v (.int .i64 r.num)) (rdM 1 r.num') := by
 refine Jc mix JLr ⟨by simp [rdM],by simp,by simp [rdM]⟩ ?_
 simp
 refine Ja (Jn4 r 8) ?_ ?_
 ·simp [rdM]
 simp [rdM]
 refine go_up (r.got 8).length (fun _ _=>True) (fun j (_:Unit) c=>⟨[(3,.v (.int .u64 (beVal ((r.got 8).take j):Nat))),(7,.row 1072000 1 5 (r.at_ 8) (r.got 8).length),(8,.v (.int .i64 ((r.got 8).length:Nat))),(9,.v (.int .i64 (j:Nat)))],rdC (r.skip 8),c⟩)
  () _ (Weak.refl _) trivial ?_ ?_
 ·intro j _ c hj _
  have h8:(r.got 8).length ≤ 8:=r.got_le 8
  have hw:IntKind.i64.wrap ((j:Int) + 1) = ((j + 1:Nat):Int):=Jf (by omega)
  have hlt:beVal ((r.got 8).take j) < 2 ^ 56:=Nat.lt_of_lt_of_le (JjP _) (by
   rw [List.length_take]
   exact Nat.le_trans (Nat.pow_le_pow_right (by omega) (show min j (r.got 8).length ≤ 7 by omega)) (by decide))
  have hb:=J1t (beVal ((r.got 8).take j)) (r.got 8)[j] hlt
  rw [← Jfb _ _ hj] at hb
  have hget:=r.at_get 8 j hj
  have hle:=r.at_le 8
  simp [rdC,hj,hget,hw,hb]
  exact ⟨(),_,Weak.refl _,trivial⟩
 ·intro _ c _
  simp [rdC]
  refine Jb (.inr rfl) ?_
  simp [Rd.num,Rd.num']
theorem JW {G:Nat → Option AV} (r:Rd) : Meets Tryz.prog G Jk [.ptr 1000 0 0] (rdM 0 r) true (dv r.dg) (rdM 1 r.dg') := by
 refine Jc mix JAK ⟨by simp [rdM],by simp,by simp [rdM]⟩ ?_
 have h1:(32:Nat) ≤ maxLen:=by decide
 have h3:=r.at_le 32
 have h4:(r.got 32).length ≤ 32:=r.got_le 32
 have h5:(List.take (r.got 32).length (List.drop (r.at_ 32) ((r.skip 32).pre ++ (r.skip 32).s))) = r.got 32:=by rw [Rd.at_drop]; simp
 have h6:splice (B (zeros 32)) 0 (B (r.got 32)) = B r.dg.bs:=JRK 32 (r.got 32)
 simp [h1]
 refine Ja (Jn4 r 32) ?_ ?_
 ·simp [rdM]
 simp [rdM,h3,h4,h5,h6]
 refine Jb (.inr rfl) ?_
 simp [Rd.dg']
theorem Js {G:Nat → Option AV} (r:Rd) (lo hi:Int) : Meets Tryz.prog G Jd [.ptr 1000 0 0,.v (.int .i64 lo),.v (.int .i64 hi)] (rdM 0 r) true (.v (.int .i64 (r.inn lo hi))) (rdM 1 (r.inn' lo hi)) := by
 refine Jc mix JNe ⟨by simp [rdM],by simp,by simp [rdM]⟩ ?_
 simp
 refine Ja (Jox r) ?_ ?_
 ·simp [rdM]
 simp [rdM]
 by_cases h1:lo ≤ r.num
 ·by_cases h2:r.num ≤ hi
  ·cases hb:r.num'.bad
   ·simp [h1,h2]
    refine Jb (.inr rfl) ?_
    simp [Rd.inn,Rd.inn',Rd.inOk,h1,h2,hb]
   ·simp [h1,h2]
    refine Jb (.inr rfl) ?_
    simp [Rd.inn,Rd.inn',Rd.inOk,hb,Rd.fault]
  ·simp [h1,h2]
   refine Jb (.inr rfl) ?_
   simp [Rd.inn,Rd.inn',Rd.inOk,h2,Rd.fault]
 ·simp [h1]
  refine Jb (.inr rfl) ?_
  simp [Rd.inn,Rd.inn',Rd.inOk,h1,Rd.fault]
theorem Jbr {G:Nat → Option AV} (r:Rd) : Meets Tryz.prog G Je9 [.ptr 1000 0 0] (rdM 0 r) true (.v (.bool r.done)) (rdM 1 r) := by
 refine Jc mix JLq ⟨by simp [rdM],by simp,by simp [rdM]⟩ ?_
 simp
 refine Ja (J2 r) ?_ ?_
 ·simp [rdM]
 cases hb:r.bad
 ·simp [rdM]
  refine Jb (.inr rfl) ?_
  simp [Rd.done,hb]
 ·simp [rdM]
  refine Jb (.inr rfl) ?_
  simp [Rd.done,hb]
end
section
open Go
set_option maxHeartbeats 4000000
def rdT (g:Nat) (r:Rd) : List (Nat × Loc) := [(1000,.var 0 (.node [.row 1092000 1 g r.pre.length r.s.length,.v (.bool r.bad)])),(1092000,.rows g 1 (B (r.pre ++ r.s)))]
theorem JoL {G:Nat → Option AV} (r:Rd) (mx:Int) : Meets Tryz.prog G JI [.ptr 1000 0 0,.v (.int .i64 mx)] (rdM 0 r) true (.v (.string (mkS (r.text mx)))) (rdM 1 (r.text' mx)) := by
 refine Jc mix JHg ⟨by simp [rdM],by simp,by simp [rdM]⟩ ?_
 simp
 refine Ja (Jn4 r 4) ?_ ?_
 ·simp [rdM]
 simp [rdM]
 refine go_up (r.got 4).length (fun _ _=>True) (fun j (_:Unit) c=>⟨[(0,.ptr 1000 0 0),(1,.v (.int .i64 mx)),(5,.v (.int .i64 (beVal ((r.got 4).take j):Nat))),(9,.row 1092000 1 5 (r.at_ 4) (r.got 4).length),(10,.v (.int .i64 ((r.got 4).length:Nat))),(11,.v (.int .i64 (j:Nat)))],rdT 5 (r.skip 4),c⟩)
  () _ (Weak.refl _) trivial ?_ ?_
 ·intro j _ c hj _
  have h8:(r.got 4).length ≤ 4:=r.got_le 4
  have hw:IntKind.i64.wrap ((j:Int) + 1) = ((j + 1:Nat):Int):=Jf (by omega)
  have hlt:beVal ((r.got 4).take j) < 2 ^ 24:=Nat.lt_of_lt_of_le (JjP _) (by
   rw [List.length_take]
   exact Nat.le_trans (Nat.pow_le_pow_right (by omega) (show min j (r.got 4).length ≤ 3 by omega)) (by decide))
  have hb:=JWn (beVal ((r.got 4).take j)) (r.got 4)[j] (by omega)
  have hu:=(r.got 4)[j].toNat_lt
  rw [Jp (n:=((beVal ((r.got 4).take j) * 256 + (r.got 4)[j].toNat:Nat):Int)) (by omega),← Jfb _ _ hj] at hb
  have hget:=r.at_get 4 j hj
  have hle:=r.at_le 4
  simp [rdT,hj,hget,hw,hb]
  exact ⟨(),_,Weak.refl _,trivial⟩
 ·intro _ c _
  have h3:=(r.skip 4).at_le (r.len mx)
  have h5:(List.take ((r.skip 4).got (r.len mx)).length (List.drop ((r.skip 4).at_ (r.len mx)) (((r.skip 4).skip (r.len mx)).pre ++ ((r.skip 4).skip (r.len mx)).s))) = (r.skip 4).got (r.len mx):=by rw [Rd.at_drop]; simp
  by_cases hm:mx < (beVal (r.got 4):Int)
  ·have hl:r.len mx = -1:=by simp [Rd.len,hm]
   rw [hl] at h3 h5
   simp [rdT,hm]
   refine Ja (Jn4 (r.skip 4) (-1)) ?_ ?_
   ·simp [rdM]
   simp [rdM,h3,h5]
   refine Jb (.inr rfl) ?_
   simp [Rd.text,Rd.text',hl]
  ·have hl:r.len mx = beVal (r.got 4):=by simp [Rd.len,hm]
   rw [hl] at h3 h5
   simp [rdT,hm]
   refine Ja (Jn4 (r.skip 4) (beVal (r.got 4):Nat)) ?_ ?_
   ·simp [rdM]
   simp [rdM,h3,h5]
   refine Jb (.inr rfl) ?_
   simp [Rd.text,Rd.text',hl]
end
section
open Go
set_option maxHeartbeats 4000000
def rfM (r:Rd) : List (Nat × Loc) := [(1000,.var 0 (.node [.v (.string (mkS r.s)),.v (.bool r.bad)]))]
theorem Jbu {G:Nat → Option AV} (r:Rd) (k:Int) : Meets Tryz.prog G JD [.ptr 1000 0 0,.v (.int .i64 k)] (rfM r) true (.v (.string (mkS (r.got k)))) (rfM (r.skip k)) := by
 refine Jc mix JLn ⟨by simp [rfM],by simp,by simp [rfM]⟩ ?_
 cases hok:r.ok k with
 | true =>
   have h:=hok
   simp only [Rd.ok,Bool.and_eq_true,Bool.not_eq_true',decide_eq_true_eq] at h
   obtain ⟨⟨h1,h2⟩,h3⟩:=h
   have h4:¬ (k < 0):=by omega
   have h5:¬ ((r.s.length:Int) < k):=by omega
   obtain ⟨n,rfl⟩:=Int.eq_ofNat_of_zero_le h2
   have h6:n ≤ r.s.length:=by omega
   have h7:r.s.take r.s.length = r.s:=by simp
   simp [rfM,h1,h3,h4,h5,h6,h7,Rd.got,Rd.skip,hok]
   refine Jb (.inr rfl) ?_
   simp
 | false =>
   have h:r.bad = true ∨ k < 0 ∨ (r.s.length:Int) < k:=by
    simp only [Rd.ok] at hok
    cases hb:r.bad
    ·simp [hb] at hok; omega
    ·simp
   cases hb:r.bad
   ·simp [hb] at h
    by_cases h0:k < 0
    ·simp [rfM,hb,h0,Rd.got,Rd.skip,hok]
     refine Jb (.inr rfl) ?_
     simp [Rd.fault]
    ·have h1:(r.s.length:Int) < k:=by omega
     simp [rfM,hb,h0,h1,Rd.got,Rd.skip,hok]
     refine Jb (.inr rfl) ?_
     simp [Rd.fault]
   ·simp [rfM,hb,Rd.got,Rd.skip,hok]
    refine Jb (.inr rfl) ?_
    simp [Rd.fault]
theorem JjT {G:Nat → Option AV} (r:Rd) : Meets Tryz.prog G JL [.ptr 1000 0 0] (rfM r) true (.v (.int .i64 r.num)) (rfM r.num') := by
 refine Jc mix JNf ⟨by simp [rfM],by simp,by simp [rfM]⟩ ?_
 simp
 refine Ja (Jbu r 8) ?_ ?_
 ·simp [rfM]
 simp [rfM]
 have hz:IntKind.i64.wrap 0 = 0:=by decide
 refine go_up (r.got 8).length (fun _ _=>True) (fun j (_:Unit) c=>⟨[(3,.v (.string (mkS (r.got 8)))),(4,.v (.int .i64 (IntKind.i64.wrap (beVal ((r.got 8).take j):Nat)))),(5,.v (.int .i64 (j:Nat)))],rfM (r.skip 8),c⟩)
  () _ (by simp [beVal,hz,rfM]; exact Weak.refl _) trivial ?_ ?_
 ·intro j _ c hj _
  have h8:(r.got 8).length ≤ 8:=r.got_le 8
  have hw:IntKind.i64.wrap ((j:Int) + 1) = ((j + 1:Nat):Int):=Jf (by omega)
  have hlt:beVal ((r.got 8).take j) < 2 ^ 56:=Nat.lt_of_lt_of_le (JjP _) (by
   rw [List.length_take]
   exact Nat.le_trans (Nat.pow_le_pow_right (by omega) (show min j (r.got 8).length ≤ 7 by omega)) (by decide))
  have hb:=JWn (beVal ((r.got 8).take j)) (r.got 8)[j] hlt
  have hi:IntKind.i64.wrap (beVal ((r.got 8).take j):Nat) = (beVal ((r.got 8).take j):Nat):=Jp (by omega)
  rw [← Jfb _ _ hj] at hb
  simp [rfM,hj,hw,hi,hb]
  exact ⟨(),_,Weak.refl _,trivial⟩
 ·intro _ c _
  simp [rfM]
  refine Jb (.inr rfl) ?_
  simp [Rd.num,Rd.num']
theorem JjU {G:Nat → Option AV} (r:Rd) (mx:Int) : Meets Tryz.prog G JO [.ptr 1000 0 0,.v (.int .i64 mx)] (rfM r) true (.v (.string (mkS (r.text mx)))) (rfM (r.text' mx)) := by
 refine Jc mix JLm ⟨by simp [rfM],by simp,by simp [rfM]⟩ ?_
 simp
 refine Ja (Jbu r 4) ?_ ?_
 ·simp [rfM]
 simp [rfM]
 refine go_up (r.got 4).length (fun _ _=>True) (fun j (_:Unit) c=>⟨[(0,.ptr 1000 0 0),(1,.v (.int .i64 mx)),(5,.v (.string (mkS (r.got 4)))),(6,.v (.int .i64 (beVal ((r.got 4).take j):Nat))),(7,.v (.int .i64 (j:Nat)))],rfM (r.skip 4),c⟩)
  () _ (Weak.refl _) trivial ?_ ?_
 ·intro j _ c hj _
  have h8:(r.got 4).length ≤ 4:=r.got_le 4
  have hw:IntKind.i64.wrap ((j:Int) + 1) = ((j + 1:Nat):Int):=Jf (by omega)
  have hlt:beVal ((r.got 4).take j) < 2 ^ 24:=Nat.lt_of_lt_of_le (JjP _) (by
   rw [List.length_take]
   exact Nat.le_trans (Nat.pow_le_pow_right (by omega) (show min j (r.got 4).length ≤ 3 by omega)) (by decide))
  have hu:=(r.got 4)[j].toNat_lt
  have hb:IntKind.i64.wrap (IntKind.i64.wrap ((beVal ((r.got 4).take j):Nat) * 256) + IntKind.i64.wrap ((r.got 4)[j].toNat:Int)) = ((beVal ((r.got 4).take (j + 1)):Nat):Int):=by
   rw [Jfb _ _ hj,Jp (n:=((r.got 4)[j].toNat:Int)) (by omega),Jp (n:=(beVal ((r.got 4).take j):Int) * 256) (by omega),Jp (by omega)]
   omega
  simp [rfM,hj,hw,hb]
  exact ⟨(),_,Weak.refl _,trivial⟩
 ·intro _ c _
  by_cases hm:mx < (beVal (r.got 4):Int)
  ·have hl:r.len mx = -1:=by simp [Rd.len,hm]
   simp [rfM,hm]
   refine Ja (Jbu (r.skip 4) (-1)) ?_ ?_
   ·simp [rfM]
   simp [rfM]
   refine Jb (.inr rfl) ?_
   simp [Rd.text,Rd.text',hl]
  ·have hl:r.len mx = beVal (r.got 4):=by simp [Rd.len,hm]
   simp [rfM,hm]
   refine Ja (Jbu (r.skip 4) (beVal (r.got 4):Nat)) ?_ ?_
   ·simp [rfM]
   simp [rfM]
   refine Jb (.inr rfl) ?_
   simp [Rd.text,Rd.text',hl]
theorem J0 {G:Nat → Option AV} (r:Rd) : Meets Tryz.prog G Jq [.ptr 1000 0 0] (rfM r) true (dv r.dg) (rfM r.dg') := by
 refine Jc mix JGs ⟨by simp [rfM],by simp,by simp [rfM]⟩ ?_
 simp
 refine Ja (Jbu r 32) ?_ ?_
 ·simp [rfM]
 simp [rfM]
 have h8:(r.got 32).length ≤ 32:=r.got_le 32
 refine go_up (r.got 32).length (fun j (x:Bytes)=>x = (r.got 32).take j ++ zeros (32 - j)) (fun j (x:Bytes) c=>⟨[(2,.ptr 2 2 0),(3,.ptr 3 3 0),(4,.v (.string (mkS (r.got 32)))),(5,.v (.int .i64 (j:Nat)))],
  [(2,.var 2 (.arr 1 (B (zeros 32)))),(3,.var 3 (.arr 1 (B x))),(1000,.var 0 (.node [.v (.string (mkS (r.skip 32).s)),.v (.bool (r.skip 32).bad)]))],c⟩) (zeros 32) _ (Weak.refl _) (by simp) ?_ ?_
 ·intro j x c hj hx
  have hw:IntKind.i64.wrap ((j:Int) + 1) = ((j + 1:Nat):Int):=Jf (by omega)
  have hl:x.length = 32:=by rw [hx]; simp; omega
  have hjx:j < x.length:=by omega
  have hs:x.set j (r.got 32)[j] = (r.got 32).take (j + 1) ++ zeros (32 - (j + 1)):=by
   rw [hx]
   exact Jn6 _ 32 j hj h8
  have hj32:(j:Int) < 32:=by omega
  have hjn:j < 32:=by omega
  simp [hj,hw,hl,hjx,hj32,hjn,B_set,Nat.mod_one]
  exact ⟨_,_,Weak.refl _,hs⟩
 ·intro x c hx
  have hl:x.length = 32:=by rw [hx]; simp; omega
  have hd:x = r.dg.bs:=by rw [hx]; simp [Rd.dg_bs]
  subst hd
  simp [hl]
  refine Jb (.inr rfl) ?_
  simp [hl,Rd.dg']
theorem Jo {G:Nat → Option AV} (r:Rd) (lo hi:Int) : Meets Tryz.prog G Je [.ptr 1000 0 0,.v (.int .i64 lo),.v (.int .i64 hi)] (rfM r) true (.v (.int .i64 (r.inn lo hi))) (rfM (r.inn' lo hi)) := by
 refine Jc mix JOU ⟨by simp [rfM],by simp,by simp [rfM]⟩ ?_
 simp
 refine Ja (JjT r) ?_ ?_
 ·simp [rfM]
 have hf:r.num'.skip (-1) = Rd.fault:=by simp [Rd.skip,Rd.ok]
 have kk:(r.num'.bad = false ∧ lo ≤ r.num ∧ r.num ≤ hi) ∨ r.num'.bad = true ∨ (r.num'.bad = false ∧ r.num < lo) ∨ (r.num'.bad = false ∧ ¬ r.num < lo ∧ hi < r.num):=by
  cases r.num'.bad
  ·simp; omega
  ·simp
 rcases kk with ⟨hb,h1,h2⟩ | hb | ⟨hb,h1⟩ | ⟨hb,h1,h2⟩
 ·have h3:¬ r.num < lo:=by omega
  have h4:¬ hi < r.num:=by omega
  simp [rfM,h3,h4,hb]
  refine Jb (.inr rfl) ?_
  simp [Rd.inn,Rd.inn',Rd.inOk,h1,h2,hb]
 ·simp [rfM,hb]
  refine Ja (Jbu r.num' (-1)) ?_ ?_
  ·simp [rfM,hb]
  simp [rfM,hf]
  refine Jb (.inr rfl) ?_
  simp [Rd.inn,Rd.inn',Rd.inOk,hb]
 ·simp [rfM,h1,hb]
  refine Ja (Jbu r.num' (-1)) ?_ ?_
  ·simp [rfM,hb]
  simp [rfM,hf]
  refine Jb (.inr rfl) ?_
  have h3:¬ lo ≤ r.num:=by omega
  simp [Rd.inn,Rd.inn',Rd.inOk,h3]
 ·simp [rfM,h1,h2,hb]
  refine Ja (Jbu r.num' (-1)) ?_ ?_
  ·simp [rfM,hb]
  simp [rfM,hf]
  refine Jb (.inr rfl) ?_
  have h3:¬ r.num ≤ hi:=by omega
  simp [Rd.inn,Rd.inn',Rd.inOk,h3]
theorem JJ {G:Nat → Option AV} (r:Rd) : Meets Tryz.prog G Ji [.ptr 1000 0 0] (rfM r) true (.v (.bool !r.bad)) (rfM r) := by
 refine Jc mix JKW ⟨by simp [rfM],by simp,by simp [rfM]⟩ ?_
 simp [rfM]
 refine Jb (.inr rfl) ?_
 simp
theorem Jba {G:Nat → Option AV} (r:Rd) : Meets Tryz.prog G Jgl [.ptr 1000 0 0] (rfM r) true (.v (.bool r.done)) (rfM r) := by
 refine Jc mix JNm ⟨by simp [rfM],by simp,by simp [rfM]⟩ ?_
 cases hb:r.bad
 ·simp [rfM,hb]
  refine Jb (.inr rfl) ?_
  simp [Rd.done,hb,JVG]
 ·simp [rfM,hb]
  refine Jb (.inr rfl) ?_
  simp [Rd.done,hb]
end
section
open Go
set_option maxHeartbeats 4000000
def wrM (g:Nat) (bs:Bytes) : List (Nat × Loc) := [(1000,.var 0 (.node [.row 2000 1 g 0 bs.length])),(2000,.rows g 1 (B bs))]
theorem JbS {G:Nat → Option AV} (bs:Bytes) (hb:bs.length ≤ 67108864) :
 Meets Tryz.prog G Jr [.ptr 1000 0 0] (wrM 0 bs) true (.row 3000 1 1 0 bs.length) (wrM 1 bs ++ [(3000,.rows 1 1 (B bs))]):=by
 refine Jc mix JGw ⟨by simp [wrM],by simp [wrM],by simp [wrM]⟩ ?_
 have h1:fitsB bs.length 1:=fits (by omega) (by omega)
 simp [wrM,h1]
 refine Jb (.inr rfl) ?_
 simp
abbrev WrA := Nat × Nat × Bytes
def wrA (a:WrA) : List (Nat × Loc) := [(1000,.var 0 (.node [.row 2000 1 a.1 0 a.2.1])),(2000,.rows a.1 1 (B a.2.2))]
theorem Jz {G:Nat → Option AV} (bs:Bytes) (ns:List Int) (hb:bs.length + 8 * ns.length ≤ 67108864) :
 Meets Tryz.prog G Jg [.ptr 1000 0 0,.sl 1 (I64 ns)] (wrM 0 bs) true (.tup []) (wrM 1 (bs ++ nums ns)):=by
 refine Jc mix JKZ ⟨by simp [wrM],by simp,by simp [wrM]⟩ ?_
 simp [wrM]
 refine go_up ns.length (fun j (a:WrA)=>match a with | (_,n,x)=>n = x.length ∧ x = bs ++ nums (ns.take j)) (fun j a c=>⟨[(0,.ptr 1000 0 0),(9,.sl 1 (I64 ns)),(10,.v (.int .i64 (ns.length:Nat))),(11,.v (.int .i64 (j:Nat)))],wrA a,c⟩)
  (0,bs.length,bs) _ (Weak.refl _) (by simp [nums]) ?_ ?_
 ·rintro j ⟨g,n,L⟩ c hj ⟨rfl,hL⟩
  simp [hj,wrA]
  refine go_up 8 (fun t (a:WrA)=>match a with | (_,n,x)=>n = x.length ∧ x = L ++ (be8 ns[j]).take t) (fun t a c=>⟨[(0,.ptr 1000 0 0),(5,.v (.int .i64 ns[j])),(6,.v (.int .i64 (56 - 8 * (t:Int)))),(9,.sl 1 (I64 ns)),(10,.v (.int .i64 (ns.length:Nat))),(11,.v (.int .i64 (j:Nat)))],wrA a,c⟩)
   (g,L.length,L) _ (Weak.refl _) (by simp) ?_ ?_
  ·rintro t ⟨g',n',L'⟩ c' ht ⟨rfl,hL'⟩
   have h8:8 * (t:Int) ≤ 56:=by omega
   have h0:(0:Int) ≤ 56 - 8 * (t:Int):=by omega
   have hmin:min (56 - 8 * (t:Int)).toNat 64 = 56 - 8 * t:=by omega
   have hw:IntKind.i64.wrap (56 - 8 * (t:Int) - 8) = 56 - 8 * ((t + 1:Nat):Int):=by rw [Jp (by omega)]; omega
   have hLl:L'.length ≤ 67108863:=by
    rw [hL',hL]
    simp only [List.length_append,Jh,List.length_take,J3]
    omega
   have hm1:fitsB (L'.length + 1) 1:=fits (by omega) (by omega)
   simp [wrA,h8,hmin,hw,hm1,bv_u8,J3a _ _ ht,J66]
   exact ⟨(_,_,_),_,(Weak.keep [1000,2000] _ _ _).trans (Weak.refl _),by simp,by rw [hL',J0O _ _ ht,List.append_assoc]⟩
  ·rintro ⟨g',n',L'⟩ c' ⟨rfl,hL'⟩
   have hw:IntKind.i64.wrap ((j:Int) + 1) = ((j + 1:Nat):Int):=Jf (by omega)
   simp [wrA,hw]
   exact ⟨(_,_,_),_,Weak.refl _,rfl,by rw [hL',hL,JTF _ _ hj,List.append_assoc,List.take_of_length_le (l:=be8 ns[j]) (by simp)]⟩
 ·rintro ⟨g,n,L⟩ c ⟨rfl,hL⟩
  have:L = bs ++ nums ns:=by rw [hL]; simp
  subst this
  simp [wrA]
  refine Jb (.inl rfl) ?_
  simp
theorem JT {G:Nat → Option AV} (bs:Bytes) (ds:List Dg) (hb:bs.length + 32 * ds.length ≤ 67108864) :
 Meets Tryz.prog G Jn [.ptr 1000 0 0,.sl 32 (Dgs ds)] (wrM 0 bs) true (.tup []) (wrM 1 (bs ++ flatD ds)):=by
 refine Jc mix JAE ⟨by simp [wrM],by simp,by simp [wrM]⟩ ?_
 simp [wrM]
 refine go_up ds.length (fun j (a:WrA)=>match a with | (_,n,x)=>n = x.length ∧ x = bs ++ flatD (ds.take j)) (fun j a c=>⟨[(0,.ptr 1000 0 0),(8,.sl 32 (Dgs ds)),(9,.v (.int .i64 (ds.length:Nat))),(10,.v (.int .i64 (j:Nat)))],wrA a,c⟩)
  (0,bs.length,bs) _ (Weak.refl _) (by simp [flatD]) ?_ ?_
 ·rintro j ⟨g,n,L⟩ c hj ⟨rfl,hL⟩
  have hLl:L.length + 32 ≤ 67108864:=by rw [hL,List.length_append,Jbq,List.length_take]; omega
  have hm1:fitsB (L.length + 32) 1:=fits (by omega) (by omega)
  have hw:IntKind.i64.wrap ((j:Int) + 1) = ((j + 1:Nat):Int):=Jf (by omega)
  simp [wrA,hj,hm1,hw]
  exact ⟨(_,_,_),_,(Weak.keep [1000,2000] _ _ _).trans (Weak.refl _),by simp,by rw [hL,JWR _ _ hj,List.append_assoc]⟩
 ·rintro ⟨g,n,L⟩ c ⟨rfl,hL⟩
  have:L = bs ++ flatD ds:=by rw [hL]; simp
  subst this
  simp [wrA]
  refine Jb (.inl rfl) ?_
  simp
theorem JGy {G:Nat → Option AV} (bs:Bytes) (ss:List Bytes) (hb:bs.length + (txts ss).length ≤ 67108864) (hn:ss.length ≤ 67108864) :
 Meets Tryz.prog G J4 [.ptr 1000 0 0,.sl 1 (Strs ss)] (wrM 0 bs) true (.tup []) (wrM 1 (bs ++ txts ss)):=by
 refine Jc mix JH9 ⟨by simp [wrM],by simp,by simp [wrM]⟩ ?_
 simp [wrM]
 refine go_up ss.length (fun j (a:WrA)=>match a with | (_,n,x)=>n = x.length ∧ x = bs ++ txts (ss.take j)) (fun j a c=>⟨[(0,.ptr 1000 0 0),(9,.sl 1 (Strs ss)),(10,.v (.int .i64 (ss.length:Nat))),(11,.v (.int .i64 (j:Nat)))],wrA a,c⟩)
  (0,bs.length,bs) _ (Weak.refl _) (by simp [txts]) ?_ ?_
 ·rintro j ⟨g,n,L⟩ c hj ⟨rfl,hL⟩
  have hsz:=JMX ss (j + 1)
  rw [JNS _ _ hj,List.length_append,Jo3] at hsz
  have hLl:L.length + (4 + ss[j].length) ≤ 67108864:=by rw [hL,List.length_append]; omega
  have hm1:fitsB (L.length + 4) 1 ∧ fitsB (L.length + 4 + ss[j].length) 1:=⟨fits (by omega) (by omega),fits (by omega) (by omega)⟩
  have hw:IntKind.i64.wrap ((j:Int) + 1) = ((j + 1:Nat):Int):=Jf (by omega)
  simp [wrA,hj,hm1,hw,bv_u8]
  exact ⟨(_,_,_),_,(Weak.keep [1000,2000] _ _ _).trans (Weak.refl _),by simp; omega,by rw [hL,JNS _ _ hj]; simp [txt,be4]⟩
 ·rintro ⟨g,n,L⟩ c ⟨rfl,hL⟩
  have:L = bs ++ txts ss:=by rw [hL]; simp
  subst this
  simp [wrA]
  refine Jb (.inl rfl) ?_
  simp
end
section
open Go
set_option maxHeartbeats 4000000
theorem J4z (n:Int) (j:Nat) (h:j < 8) : (zeros (8 - j) ++ (be8 n).drop (8 - j)).set (7 - j) (u8 (n.fdiv (2 ^ (8 * j)))) = zeros (8 - (j + 1)) ++ (be8 n).drop (8 - (j + 1)) := by
 rw [Int.fdiv_eq_ediv_of_nonneg _ (Int.le_of_lt (Int.pow_pos (by decide)))]
 match j,h with
 | 0,_=>simp [be8,zeros]
 | 1,_=>simp [be8,zeros]
 | 2,_=>simp [be8,zeros]
 | 3,_=>simp [be8,zeros]
 | 4,_=>simp [be8,zeros]
 | 5,_=>simp [be8,zeros]
 | 6,_=>simp [be8,zeros]
 | 7,_=>simp [be8,zeros]
theorem Jp0 {G:Nat → Option AV} (n:Int) : Meets Tryz.prog G JbB [.v (.int .i64 n)] [] true (.v (.string (mkS (be8 n)))) [] := by
 refine Jc mix JZO ⟨by simp,by simp,by simp⟩ ?_
 simp
 refine go_up 8 (fun j (x:Bytes)=>x = zeros (8 - j) ++ (be8 n).drop (8 - j)) (fun j x c=>⟨[(0,.v (.int .i64 n)),(3,.ptr 3 3 0),(4,.v (.int .i64 (j:Nat)))],[(3,.var 3 (.arr 1 (B x)))],c⟩)
  (zeros 8) _ (Weak.refl _) (by simp) ?_ ?_
 ·intro j x c hj hx
  have hw:IntKind.i64.wrap ((j:Int) + 1) = ((j + 1:Nat):Int):=Jf (by omega)
  have hw2:IntKind.i64.wrap (7 - (j:Int)) = ((7 - j:Nat):Int):=by rw [Jp (by omega)]; omega
  have hw3:IntKind.i64.wrap (8 * (j:Int)) = 8 * (j:Int):=Jp (by omega)
  have hw4:IntKind.u64.wrap (8 * (j:Int)) = 8 * (j:Int):=JJG (by omega)
  have h0:0 ≤ 8 * (j:Int):=by omega
  have hj8:(j:Int) < 8:=by omega
  have hxl:x.length = 8:=by rw [hx]; simp
  have hmin:min (8 * (j:Int)).toNat 64 = 8 * j:=by omega
  have hs:=J4z n j hj
  rw [← hx] at hs
  have h7:7 - j < 8:=by omega
  have h7':(7 - j:Nat) < (8:Int):=by omega
  simp [hw,hw2,hw3,hw4,h0,hj8,hxl,hmin,h7,h7',bv_u8,B_set,Nat.mod_one]
  exact ⟨_,_,Weak.refl _,hs⟩
 ·intro x c hx
  have hxl:x = be8 n:=by rw [hx]; simp [zeros]
  subst hxl
  have ht:List.take 8 (be8 n) = be8 n:=List.take_of_length_le (by simp)
  simp [ht]
  refine Jb (.inr rfl) ?_
  simp
theorem JRE {G:Nat → Option AV} (s:Bytes) (hs:s.length < 4294967296) : Meets Tryz.prog G JF9 [.v (.string (mkS s))] [] true (.v (.string (mkS (txt s)))) [] := by
 refine Jc mix JXC ⟨by simp,by simp,by simp⟩ ?_
 simp
 refine Ja (Jp0 s.length) ?_ ?_
 ·simp
 have h:4 + s.length ≤ 9223372036854775807:=by omega
 have ht:List.take 8 (be8 s.length) = be8 s.length:=List.take_of_length_le (by simp)
 simp [h,ht,J1v]
 refine Jb (.inr rfl) ?_
 simp [txt]
end
section
open Go
set_option maxHeartbeats 4000000
variable {G:Nat → Option AV}
theorem I64_3 (a b c:Int) : [AV.v (.int .i64 a),.v (.int .i64 b),.v (.int .i64 c)] = I64 [a,b,c] := (rfl)
theorem I64_4 (a b c d:Int) : [AV.v (.int .i64 a),.v (.int .i64 b),.v (.int .i64 c),.v (.int .i64 d)] = I64 [a,b,c,d] := (rfl)
theorem JV9 (a b c:Bytes) : [AV.v (.string (mkS a)),.v (.string (mkS b)),.v (.string (mkS c))] = Strs [a,b,c] := (rfl)
theorem Dgs_1 (a:Dg) : [AV.arr 1 (B a.bs)] = Dgs [a] := (rfl)
theorem J3m (a:Dg) : flatD [a] = a.bs := by simp [flatD]
theorem JRX (ss:List Bytes) (hn:ss.length ≤ 1000000) : Meets Tryz.prog G Jh7 [.sl 1 (Strs ss)] [] true (.v (.bool (ss.all fun s=>decide (s.length ≤ 1024)))) [] := by
 refine Jc mix JOM ⟨by simp,by simp,by simp⟩ ?_
 simp
 refine go_up ss.length (fun j (_:Unit)=>∀ i (h:i < ss.length),i < j → ss[i].length ≤ 1024) (fun j (_:Unit) c=>⟨[(5,.sl 1 (Strs ss)),(6,.v (.int .i64 (ss.length:Nat))),(7,.v (.int .i64 (j:Nat)))],[],c⟩) () _ (Weak.refl _) (by intro i _ h; omega) ?_ ?_
 ·intro j _ c hj hx
  have hw:IntKind.i64.wrap ((j:Int) + 1) = ((j + 1:Nat):Int):=Jf (by omega)
  by_cases c1:(1024:Int) < (ss[j].length:Nat)
  ·have hf:(ss.all fun s=>decide (s.length ≤ 1024)) = false:=by
    rw [List.all_eq_false]
    exact ⟨ss[j],List.getElem_mem hj,by simp; omega⟩
   simp [hj,c1]
   refine Jb (.inr rfl) ?_
   simp only [hf]
   simp
  ·simp [hj,c1,hw]
   refine ⟨(),_,Weak.refl _,?_⟩
   intro i hi hij
   rcases (show i < j ∨ i = j by omega) with h | rfl
   ·exact hx i hi h
   ·omega
 ·intro _ c hx
  have hf:(ss.all fun s=>decide (s.length ≤ 1024)) = true:=by
   rw [List.all_eq_true]
   intro s hs
   obtain ⟨i,hi,rfl⟩:=List.getElem_of_mem hs
   exact decide_eq_true (hx i hi hi)
  simp
  refine Jb (.inr rfl) ?_
  simp only [hf]
  simp
theorem JF8 (q:Req) : Meets Tryz.prog G JeB [q.av] [] true (.v (.bool q.good)) [] := by
 refine Jc mix JPh ⟨by simp,by simp,by simp⟩ ?_
 have hs:=JRX (G:=G) [q.key,q.val,q.old] (by simp)
 unfold Req.good
 by_cases c1:1 ≤ q.client
 ·by_cases c2:q.client ≤ 64
  ·by_cases c3:1 ≤ q.num
   ·by_cases c4:q.num ≤ 1099511627776
    ·by_cases c5:1 ≤ q.kind
     ·by_cases c6:q.kind ≤ 7
      ·simp [Req.av,Chg.av,c1,c2,c3,c4,c5,c6]
       refine Ja hs ?_ ?_
       ·simp [JV9]
       simp [JV9]
       refine Jb (.inr rfl) ?_
       simp [Bool.and_assoc]
      ·simp [Req.av,Chg.av,c1,c2,c3,c4,c5,c6]
       refine Jb (.inr rfl) ?_
       simp
     ·simp [Req.av,Chg.av,c1,c2,c3,c4,c5]
      refine Jb (.inr rfl) ?_
      simp
    ·simp [Req.av,Chg.av,c1,c2,c3,c4]
     refine Jb (.inr rfl) ?_
     simp
   ·simp [Req.av,Chg.av,c1,c2,c3]
    refine Jb (.inr rfl) ?_
    simp
  ·simp [Req.av,Chg.av,c1,c2]
   refine Jb (.inr rfl) ?_
   simp
 ·simp [Req.av,Chg.av,c1]
  refine Jb (.inr rfl) ?_
  simp
theorem JMf (bs:Bytes) (q:Req) (h:bs.length + q.bytes.length ≤ 60000000) : Meets Tryz.prog G JbO [.ptr 1000 0 0,q.av] (wrM 0 bs) true (.tup []) (wrM 1 (bs ++ q.bytes)) := by
 refine Jc mix JOp ⟨by simp [wrM],by simp,by simp [wrM]⟩ ?_
 have hl:=Req.bytes_len q
 have n1:=Jh [q.client,q.num,q.kind]
 have n2:(txts [q.key,q.val,q.old]).length = 12 + (q.key.length + q.val.length + q.old.length):=by simp [txts]; omega
 have n3:=Jh [q.ch.kind,q.ch.id,q.ch.new,q.ch.height]
 have hb:q.bytes = nums [q.client,q.num,q.kind] ++ (txts [q.key,q.val,q.old] ++ (nums [q.ch.kind,q.ch.id,q.ch.new,q.ch.height] ++ q.ch.root.bs)):=rfl
 rw [hb]
 simp only [List.length_cons,List.length_nil] at n1 n3
 have m1:=Jz (G:=G) bs [q.client,q.num,q.kind] (by simp; omega)
 generalize nums [q.client,q.num,q.kind] = x1 at *
 have m2:=JGy (G:=G) (bs ++ x1) [q.key,q.val,q.old] (by rw [List.length_append]; omega) (by simp)
 generalize txts [q.key,q.val,q.old] = x2 at *
 have m3:=Jz (G:=G) (bs ++ x1 ++ x2) [q.ch.kind,q.ch.id,q.ch.new,q.ch.height] (by simp only [List.length_append,List.length_cons,List.length_nil]; omega)
 generalize nums [q.ch.kind,q.ch.id,q.ch.new,q.ch.height] = x3 at *
 have m4:=JT (G:=G) (bs ++ x1 ++ x2 ++ x3) [q.ch.root] (by simp only [List.length_append,List.length_cons,List.length_nil]; omega)
 rw [J3m] at m4
 have e:bs ++ (x1 ++ (x2 ++ (x3 ++ q.ch.root.bs))) = bs ++ x1 ++ x2 ++ x3 ++ q.ch.root.bs:=by simp
 rw [e]
 generalize bs ++ x1 ++ x2 ++ x3 ++ q.ch.root.bs = y4 at *
 generalize bs ++ x1 ++ x2 ++ x3 = y3 at *
 generalize bs ++ x1 ++ x2 = y2 at *
 generalize bs ++ x1 = y1 at *
 simp [Req.av,Chg.av,wrM]
 refine Ja m1 ?_ ?_
 ·simp [wrM,I64_3]
 simp [wrM,I64_3]
 refine Ja m2 ?_ ?_
 ·simp [wrM,JV9]
 simp [wrM,JV9]
 refine Ja m3 ?_ ?_
 ·simp [wrM,I64_4]
 simp [wrM,I64_4]
 refine Ja m4 ?_ ?_
 ·simp [wrM,Dgs_1]
 simp [wrM,Dgs_1]
 refine Jb (.inl rfl) ?_
 simp
theorem JOR (r:Rd) : Meets Tryz.prog G Jer [.ptr 1000 0 0] (rdM 0 r) true r.req.av (rdM 1 r.req') := by
 refine Jc mix JPr ⟨by simp [rdM],by simp [Req.av,Chg.av],by simp [rdM]⟩ ?_
 unfold Rd.req Rd.req0 Rd.req' Rd.q10 Rd.q9 Rd.q8 Rd.q7 Rd.q6 Rd.q5 Rd.q4 Rd.q3 Rd.q2 Rd.q1
 have m1:=Js (G:=G) r 1 64
 generalize r.inn' 1 64 = r1 at *
 have m2:=Js (G:=G) r1 1 1099511627776
 generalize r1.inn' 1 1099511627776 = r2 at *
 have m3:=Js (G:=G) r2 1 7
 generalize r2.inn' 1 7 = r3 at *
 have m4:=JoL (G:=G) r3 1024
 generalize r3.text' 1024 = r4 at *
 have m5:=JoL (G:=G) r4 1024
 generalize r4.text' 1024 = r5 at *
 have m6:=JoL (G:=G) r5 1024
 generalize r5.text' 1024 = r6 at *
 have m7:=Jox (G:=G) r6
 generalize r6.num' = r7 at *
 have m8:=Jox (G:=G) r7
 generalize r7.num' = r8 at *
 have m9:=Jox (G:=G) r8
 generalize r8.num' = r9 at *
 have m10:=Jox (G:=G) r9
 generalize r9.num' = r10 at *
 have m11:=JW (G:=G) r10
 generalize r10.dg' = r11 at *
 have m12:=J2 (G:=G) r11
 simp [rdM]
 refine Ja m1 ?_ ?_
 ·simp [rdM]
 simp [rdM]
 refine Ja m2 ?_ ?_
 ·simp [rdM]
 simp [rdM]
 refine Ja m3 ?_ ?_
 ·simp [rdM]
 simp [rdM]
 refine Ja m4 ?_ ?_
 ·simp [rdM]
 simp [rdM]
 refine Ja m5 ?_ ?_
 ·simp [rdM]
 simp [rdM]
 refine Ja m6 ?_ ?_
 ·simp [rdM]
 simp [rdM]
 refine Ja m7 ?_ ?_
 ·simp [rdM]
 simp [rdM]
 refine Ja m8 ?_ ?_
 ·simp [rdM]
 simp [rdM]
 refine Ja m9 ?_ ?_
 ·simp [rdM]
 simp [rdM]
 refine Ja m10 ?_ ?_
 ·simp [rdM]
 simp [rdM]
 refine Ja m11 ?_ ?_
 ·simp [rdM]
 simp [rdM]
 refine Ja m12 ?_ ?_
 ·simp [rdM]
 cases hb:r11.bad
 ·simp [rdM,hb]
  refine Jb (.inr rfl) ?_
  simp [Req.av,Chg.av]
 ·simp [rdM,hb]
  refine Jb (.inr rfl) ?_
  simp [Req.av,Chg.av,Req.zero,Chg.zero]
end
end Go.Proofs.YtlajjoekbcjfnaaGreatDoor.WL
