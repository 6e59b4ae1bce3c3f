/- Texts put together: L15a, S13s, L15b, T02, P15, L15c, P15b, L15d. -/
import Derived.Test.YtjlmpdbagmdbiaaDoorWm11
import Derived.Test.YtjlmpdbagmdbiaaDoorRows
import Derived.ProofKit
import Derived.LaidMore
import Derived.Lib.LaidTab
section
/-
  CHAPTER 15: the laws' first question, and how great an input is.
-/
namespace Go.Proofs.YtjlmpdbagmdbiaaDoor.WL
open Go
set_option maxHeartbeats 8000000
variable {G : Nat → Option AV}

noncomputable def c_alive15 : CCode :=
  .seq (.region c_l15_alive_r0 none []) (.seq (.region c_l15_alive_r1 none [1]) (.ghost (.seq (.region c_l15_alive_r2 none [1, 2, 3, 4]) (.seq (.region c_l15_alive_r3 none [0]) .ret))))
theorem k_alive15 : chkFn Tryd.prog fn_l15_alive c_alive15 R_l15_alive 0 = true := by kernel_rfl
def conf15 : Conf := ⟨0, [⟨1, Dg.zero, 0⟩]⟩
theorem check15 : checkL conf15 [] = (conf15, 0, 0) := by
  have hg : conf15.good = true := by simp [conf15, Conf.good, memOk, Mem.good]
  unfold checkL
  rw [hg]
  rfl
theorem step15 : stepK conf15 0 Lnk.zero = 12 := by
  unfold stepK
  rw [if_pos (.inl (by simp [Lnk.zero, Blk.zero]))]
attribute [local irreducible] sha comp hb checkK idxOf Vote.signs Vote.good rightV Conf.good Blk.good Blk.dg quorum checkC Conf.dg stepK runK checkL

theorem alive15_meets : Meets Tryd.prog Gt fn_l15_alive [] [] true (.v (.bool true)) [] := by
  refine meets_of_awp mix k_alive15 ⟨by simp, by simp, by simp⟩ (awp_go ?_)
  have hz : Blk.zero.bytes.length = 120 := by rw [Blk.bytes_len]; rfl
  have m1 := chcheck_meets conf15 [] ⟨by simp, by simp [conf15], by simp [conf15, W64], by simp⟩
  rw [check15] at m1
  have m2 := step_meets conf15 0 Lnk.zero ⟨by simp [conf15], by simp [Lnk.zero, Conf.zero], by simp [conf15, W64], by simp [Lnk.zero, Cert.zero], by simp [Lnk.zero, Cert.zero], by show Blk.zero.bytes.length ≤ 40000000; omega, by simp [Lnk.zero, Blk.zero]⟩
  rw [step15] at m2
  simp [c_alive15]
  refine go_ghost ⟨[(1, .ptr 1 8 0)], [(1, .var 8 conf15.av)], 9⟩ (Weak.re (by simp [conf15, Conf.av, Mems, Mem.av, dv])) ?_
  simp
  have hl1 : conf15.ms.length = 1 := rfl
  refine call_intro m1 ?_ ?_
  · simp
  simp [chAv, Conf.av, hl1]
  refine call_intro m2 ?_ ?_
  · simp [Lnk.av, Lnk.zero, Blk.avS, Blk.zero, Cert.av, Cert.zero, Conf.av, Conf.zero, dv]
  simp
  refine post_end (.inr rfl) ?_
  simp
def greatL (l : Lnk) : Bool := decide (20 < l.conf.ms.length) || decide (12 < l.cert.votes.length) || l.blk.great 4096 || l.cert.votes.any fun v => v.sig.greatF
def greatN (c : Conf) (ls : List Lnk) : Bool := decide (20 < c.ms.length) || decide (6 < ls.length) || ls.any greatL
theorem great15_meets (c : Conf) (ls : List Lnk) (hf : ∀ l ∈ ls, ∀ q ∈ l.blk.qs, q.key.length ≤ reachBytes ∧ q.val.length ≤ reachBytes ∧ q.old.length ≤ reachBytes) :
    Meets Tryd.prog G fn_l15_great [c.av, .sl 103 (Lnks ls)] [] true (.v (.bool (greatN c ls))) [] := by
  refine meets_of_go mix k_l15_great ⟨by simp, by simp, by simp⟩ ?_
  unfold greatN
  by_cases c1 : (20 : Int) < (c.ms.length : Nat)
  · have d1 : 20 < c.ms.length := by omega
    simp [Conf.av, c1]
    refine post_end (.inr rfl) ?_
    simp [d1]
  have d1 : ¬ 20 < c.ms.length := by omega
  by_cases c2 : (6 : Int) < (ls.length : Nat)
  · have d2 : 6 < ls.length := by omega
    simp [Conf.av, c1, c2]
    refine post_end (.inr rfl) ?_
    simp [d2]
  have d2 : ¬ 6 < ls.length := by omega
  have hres : (decide (20 < c.ms.length) || decide (6 < ls.length) || ls.any greatL) = ls.any greatL := by simp [d1, d2]
  rw [hres]
  obtain ⟨res, hr0⟩ : ∃ res, ls.any greatL = res := ⟨_, rfl⟩
  rw [hr0]
  simp [Conf.av, c1, c2]
  refine go_up ls.length (fun j (_ : Unit) => ∀ i (h : i < ls.length), i < j → greatL ls[i] = false) (fun j (_ : Unit) q => ⟨[(18, .sl 103 (Lnks ls)), (19, .v (.int .i64 (ls.length : Nat))), (20, .v (.int .i64 (j : Nat)))], [], q + 1⟩) () _ (Weak.re (by simp)) (by intro i _ h; omega) ?_ ?_
  · intro j _ q hj hx
    have hw : IntKind.i64.wrap ((j : Int) + 1) = ((j + 1 : Nat) : Int) := w64_succ (by omega)
    obtain ⟨l, hl⟩ : ∃ l, ls[j] = l := ⟨_, rfl⟩
    have hmem : l ∈ ls := by rw [← hl]; exact List.getElem_mem hj
    have hyes : greatL l = true → res = true := fun h => by rw [← hr0]; exact List.any_eq_true.2 ⟨l, hmem, h⟩
    have m1 := bgreat_meets (G := G) l.blk 4096 (by omega) (hf l hmem)
    simp only [Int.cast_ofNat_Int] at m1
    by_cases e1 : (20 : Int) < (l.conf.ms.length : Nat)
    · have hr := hyes (by simp [greatL, show 20 < l.conf.ms.length by omega])
      simp [hj, hl, Lnk.av, Conf.av, Cert.av, Blk.avS, e1]
      refine post_end (.inr rfl) ?_
      simp [hr]
    by_cases e2 : (12 : Int) < (l.cert.votes.length : Nat)
    · have hr := hyes (by simp [greatL, show 12 < l.cert.votes.length by omega])
      simp [hj, hl, Lnk.av, Conf.av, Cert.av, Blk.avS, e1, e2]
      refine post_end (.inr rfl) ?_
      simp [hr]
    cases g : l.blk.great 4096
    case true =>
      rw [g] at m1
      have hr := hyes (by simp [greatL, g])
      simp [hj, hl, Lnk.av, Conf.av, Cert.av, Blk.avS, e1, e2]
      refine call_intro m1 ?_ ?_
      · simp [Blk.avS]
      simp
      refine post_end (.inr rfl) ?_
      simp [hr]
    rw [g] at m1
    have hno : (∀ v ∈ l.cert.votes, v.sig.greatF = false) → greatL l = false := by
      intro h
      have h1 : (l.cert.votes.any fun v => v.sig.greatF) = false := by
        rw [List.any_eq_false]
        intro v hv
        simp [h v hv]
      simp only [greatL, g, h1, Bool.or_false, Bool.or_eq_false_iff, decide_eq_false_iff_not]
      omega
    have hy2 : ∀ v ∈ l.cert.votes, v.sig.greatF = true → res = true := fun v hv h => hyes (by
      have h1 : (l.cert.votes.any fun v => v.sig.greatF) = true := List.any_eq_true.2 ⟨v, hv, h⟩
      simp [greatL, h1])
    have hlen : l.cert.votes.length ≤ 12 := by omega
    generalize hvs : l.cert.votes = vs at *
    simp [hj, hl, Lnk.av, Conf.av, Cert.av, Blk.avS, e1, e2, hvs]
    refine call_intro m1 ?_ ?_
    · simp [Blk.avS]
    simp
    refine go_up vs.length (fun i (_ : Unit) => ∀ k (h : k < vs.length), k < i → vs[k].sig.greatF = false) (fun i (_ : Unit) q => ⟨[(18, .sl 103 (Lnks ls)), (19, .v (.int .i64 (ls.length : Nat))), (20, .v (.int .i64 (j : Nat))), (43, .sl 41 (Votes vs)), (44, .v (.int .i64 (vs.length : Nat))), (45, .v (.int .i64 (i : Nat)))], [], q + 1⟩) () _ (Weak.re (by simp)) (by intro i _ h; omega) ?_ ?_
    · intro i _ q hi hx2
      have hw2 : IntKind.i64.wrap ((i : Int) + 1) = ((i + 1 : Nat) : Int) := w64_succ (by omega)
      obtain ⟨v, hv⟩ : ∃ v, vs[i] = v := ⟨_, rfl⟩
      have hyv := hy2 v (by rw [← hv]; exact List.getElem_mem hi)
      by_cases a1 : (200 : Int) < (v.sig.op.length : Nat)
      · have hr := hyv (by simp [Sig.greatF, show 200 < v.sig.op.length by omega])
        simp [hi, hv, Vote.av, Sig.avS, a1]
        refine post_end (.inr rfl) ?_
        simp [hr]
      by_cases a2 : (200 : Int) < (v.sig.sh.length : Nat)
      · have hr := hyv (by simp [Sig.greatF, show 200 < v.sig.sh.length by omega])
        simp [hi, hv, Vote.av, Sig.avS, a1, a2]
        refine post_end (.inr rfl) ?_
        simp [hr]
      by_cases a3 : (200 : Int) < (v.sig.path.length : Nat)
      · have hr := hyv (by simp [Sig.greatF, show 200 < v.sig.path.length by omega])
        simp [hi, hv, Vote.av, Sig.avS, a1, a2, a3]
        refine post_end (.inr rfl) ?_
        simp [hr]
      have hnv : v.sig.greatF = false := by simp [Sig.greatF]; omega
      simp [hi, hv, Vote.av, Sig.avS, a1, a2, a3, hw2]
      refine ⟨(), _, Weak.re (by simp), ?_⟩
      intro k hk hki
      rcases (show k < i ∨ k = i by omega) with h1 | rfl
      · exact hx2 k hk h1
      · rw [hv]; exact hnv
    · intro _ q hx2
      have hgl := hno (fun v hv => by
        obtain ⟨k, hk, rfl⟩ := List.getElem_of_mem hv
        exact hx2 k hk hk)
      simp [hw]
      refine ⟨(), _, Weak.re (by simp), ?_⟩
      intro i hi hij
      rcases (show i < j ∨ i = j by omega) with h1 | rfl
      · exact hx i hi h1
      · rw [hl]; exact hgl
  · intro _ q hx
    have hr : res = false := by
      rw [← hr0, List.any_eq_false]
      intro l hl
      obtain ⟨i, hi, rfl⟩ := List.getElem_of_mem hl
      simp [hx i hi hi]
    simp
    refine post_end (.inr rfl) ?_
    simp [hr]
theorem greatN_no {c : Conf} {ls : List Lnk} (h : greatN c ls = false) : c.ms.length ≤ 20 ∧ ls.length ≤ 6 ∧ ∀ l ∈ ls, l.conf.ms.length ≤ 20 ∧ l.cert.votes.length ≤ 12 ∧ l.blk.bytes.length ≤ 5000 ∧ l.blk.qs.length ≤ 40 ∧ ∀ v ∈ l.cert.votes, v.sig.greatF = false := by
  simp only [greatN, Bool.or_eq_false_iff, decide_eq_false_iff_not, List.any_eq_false] at h
  refine ⟨by omega, by omega, fun l hl => ?_⟩
  have h1 := h.2 l hl
  simp only [greatL, Bool.not_eq_true, Bool.or_eq_false_iff, decide_eq_false_iff_not, List.any_eq_false] at h1
  have h2 := great_no h1.1.2
  rw [Blk.bytes_len]
  exact ⟨by omega, by omega, by omega, by omega, fun v hv => by simpa using h1.2 v hv⟩
end Go.Proofs.YtjlmpdbagmdbiaaDoor.WL

end
section
/-
  CHAPTER 13, 14, 15, 08: contracts of the reference: things are the same as themselves.
-/
namespace Go.Proofs.YtjlmpdbagmdbiaaDoor.WL
open Go
set_option maxHeartbeats 4000000
variable {G : Nat → Option AV}
attribute [local irreducible] sha
attribute [local irreducible] Rd.sig Rd.sig' Rd.blk Rd.blk' Rd.inn Rd.inn' Rd.dg Rd.dg' Rd.rep Rd.rep' repR

def Sig.small (s : Sig) : Prop := s.op.length ≤ 1000 ∧ s.sh.length ≤ 1000 ∧ s.path.length ≤ 1000
def Cert.small (x : Cert) : Prop := x.votes.length ≤ 1000 ∧ ∀ v ∈ x.votes, v.sig.small
theorem cmp_mem (m : Mem) : cmpA (.st [.int .i64, .st [.ints .u8 32, .int .i64]]) m.av m.av = some true := by
  have h1 := fun x y : Int => cmp_int .i64 x y
  unfold Mem.av cmpA
  simp only [cmpL, h1, Option.bind_some, Option.map_some]
  unfold cmpA
  simp only [cmpL, h1, cmp_dg, Option.bind_some, Option.map_some]
  simp
theorem csame_refl (x : Conf) (h : x.ms.length ≤ 1000) : Meets Tryd.prog G fn_r08_Same [x.av, x.av] [] true (.v (.bool true)) [] := by
  refine meets_of_go mix k_r08_Same ⟨by simp, by simp, by simp⟩ ?_
  generalize hms : x.ms = ms at *
  simp [Conf.av, hms]
  refine go_up ms.length (fun j (_ : Unit) => True) (fun j _ c => ⟨[(2, .ptr 2 c 0), (3, .ptr 3 c 0), (22, .v (.int .i64 (ms.length : Nat))), (23, .v (.int .i64 (j : Nat)))], [(2, .var c (.node [.v (.int .i64 x.epoch), .sl 34 (Mems ms)])), (3, .var c (.node [.v (.int .i64 x.epoch), .sl 34 (Mems ms)]))], c + 1⟩) () _ (Weak.re (by simp)) trivial ?_ ?_
  · intro j _ c hj _
    have hw : IntKind.i64.wrap ((j : Int) + 1) = ((j + 1 : Nat) : Int) := w64_succ (by omega)
    have hc := cmp_mem ms[j]
    simp [hj, hc, hw]
    exact ⟨(), _, Weak.re (by simp), trivial⟩
  · intro _ c _
    simp
    refine post_end (.inr rfl) ?_
    simp
def Lnk.small (l : Lnk) : Prop := l.blk.qs.length ≤ 1000 ∧ l.cert.small ∧ l.conf.ms.length ≤ 1000
/-! What is read is small. -/
end Go.Proofs.YtjlmpdbagmdbiaaDoor.WL

end
section
/-
  CHAPTER 15: walks of laws.
-/
namespace Go.Proofs.YtjlmpdbagmdbiaaDoor.WL
open Go
set_option maxHeartbeats 8000000
variable {G : Nat → Option AV}

theorem runK_few : ∀ (ls : List Lnk) (c : Conf) (h : Int) (i : Nat), c.ms.length ≤ 1000 → (∀ l ∈ ls, l.conf.ms.length ≤ 1000) → (runK c h ls i).1.ms.length ≤ 1000
  | [], c, h, i, hc, _ => hc
  | l :: ls, c, h, i, hc, hl => by
    unfold runK
    split
    · exact runK_few ls _ _ _ (hl l List.mem_cons_self) (fun k hk => hl k (List.mem_cons_of_mem _ hk))
    · simp [Conf.zero]
theorem checkL_few {c : Conf} {ls : List Lnk} (ht : Tames c ls) : (checkL c ls).1.ms.length ≤ 1000 := by
  unfold checkL
  split
  · simp [Conf.zero]
  · split
    · simp [Conf.zero]
    · exact runK_few ls _ _ _ ht.cms (fun l hl => (ht.links l hl).1)
theorem tames_of {c : Conf} {ls : List Lnk} (h : greatN c ls = false) (hm : ∀ m ∈ c.ms, W64 m.height) (hl : ∀ l ∈ ls, (∀ m ∈ l.conf.ms, W64 m.height) ∧ ∀ v ∈ l.cert.votes, W64 v.sig.leaf) : Tames c ls := by
  obtain ⟨g1, g2, g3⟩ := greatN_no h
  refine ⟨by omega, by omega, hm, fun l hl' => ?_⟩
  obtain ⟨k1, k2, k3, k4, _⟩ := g3 l hl'
  obtain ⟨w1, w2⟩ := hl l hl'
  exact ⟨by omega, w1, w2, by omega, by omega, by omega⟩
attribute [local irreducible] sha comp hb checkK idxOf Vote.signs Vote.good rightV Conf.good Blk.good Blk.dg quorum checkC Conf.dg stepK runK checkL

theorem chainChecks_walk (c : Conf) (h : Int) (ls : List Lnk) (hm : ∀ m ∈ c.ms, W64 m.height) (hl : ∀ l ∈ ls, (∀ m ∈ l.conf.ms, W64 m.height) ∧ ∀ v ∈ l.cert.votes, W64 v.sig.leaf)
    (hf : ∀ l ∈ ls, ∀ q ∈ l.blk.qs, q.key.length ≤ reachBytes ∧ q.val.length ≤ reachBytes ∧ q.old.length ≤ reachBytes) :
    Meets Tryd.prog Gt fn_l15_ChainChecks [c.av, .v (.int .i64 h), .sl 103 (Lnks ls)] [] true (.v (.bool true)) [] := by
  refine meets_of_go mix k_l15_ChainChecks ⟨by simp, by simp, by simp⟩ ?_
  have m1 := great15_meets (G := Gt) c ls hf
  cases hg : greatN c ls
  case true =>
    rw [hg] at m1
    simp
    refine call_intro alive15_meets ?_ ?_
    · simp
    simp
    refine call_intro m1 ?_ ?_
    · simp
    simp
    refine post_end (.inr rfl) ?_
    simp
  rw [hg] at m1
  have ht := tames_of hg hm hl
  have hfew := ht.few
  have m2 := chcheck_meets c ls ht
  have m3 := rchcheck_meets c ls ht
  have m4 := csame_refl (G := Gt) (checkL c ls).1 (checkL_few ht)
  have hstep := fun l (hl' : l ∈ ls) => step_meets c h l (ht.tame hl' ⟨ht.cms, ht.heights⟩)
  have hrstep := fun l (hl' : l ∈ ls) => rstep_meets c h l (ht.tame hl' ⟨ht.cms, ht.heights⟩)
  unfold chAv at m2 m3
  generalize checkL c ls = res at *
  obtain ⟨rc, rn, re⟩ := res
  dsimp only at m2 m3 m4
  simp
  refine call_intro alive15_meets ?_ ?_
  · simp
  simp
  refine call_intro m1 ?_ ?_
  · simp
  simp
  refine go_up ls.length (fun j (_ : Unit) => True) (fun j (_ : Unit) q => ⟨[(1, .v (.int .i64 h)), (2, .sl 103 (Lnks ls)), (3, .ptr 3 q 0), (20, .sl 103 (Lnks ls)), (21, .v (.int .i64 (ls.length : Nat))), (22, .v (.int .i64 (j : Nat)))], [(3, .var q c.av)], q + 1⟩) () _ (Weak.re (by simp)) trivial ?_ ?_
  · intro j _ q hj _
    have hw : IntKind.i64.wrap ((j : Int) + 1) = ((j + 1 : Nat) : Int) := w64_succ (by omega)
    obtain ⟨l, hl1⟩ : ∃ l, ls[j] = l := ⟨_, rfl⟩
    have hmem : l ∈ ls := by rw [← hl1]; exact List.getElem_mem hj
    have m5 := hstep l hmem
    have m6 := hrstep l hmem
    generalize stepK c h l = e at *
    simp [hj, hl1]
    refine call_intro m5 ?_ ?_
    · simp
    simp
    refine call_intro m6 ?_ ?_
    · simp
    simp [hw]
    exact ⟨(), _, Weak.re (by simp), trivial⟩
  · intro _ q _
    simp
    refine call_intro m2 ?_ ?_
    · simp
    simp
    refine call_intro m3 ?_ ?_
    · simp
    simp
    refine call_intro m4 ?_ ?_
    · simp
    simp
    refine post_end (.inr rfl) ?_
    simp
end Go.Proofs.YtjlmpdbagmdbiaaDoor.WL

end
section
/-
  CHAPTER 02: what the row's condition gives the walks: the table in the program's variable.
-/
namespace Go.Proofs.YtjlmpdbagmdbiaaDoor.WL
open Go

theorem gTable : Tryd.prog.globalNamed "wapentake/sha.table" = some 0 := by kernel_rfl
def tableZ : List Int := table.map w32
theorem laid_eq {H : Type} : (Rows.laid_wapentake_sha_table : DataW H) = Lib.tabData .u32 tableZ := rfl
theorem Es_ints {C : Ctx} : ∀ ws : List UInt32, Es C 1 (U ws) (ws.map fun z => Value.int .u32 (w32 z))
  | [] => rfl
  | w :: ws => ⟨[_], _, rfl, rfl, ⟨rfl, rfl⟩, Es_ints ws⟩
theorem gr_of_laid {W : World} (h : laidMetH Tryd.prog [("wapentake/sha.table", Rows.laid_wapentake_sha_table)] W) : GR ⟨W, fun k => k < W.heap.size, fun _ => none, fun _ => none, fun g => g = 0⟩ Gt := by
  rw [MakeChecks.laidMetH_plain _ _ _ (by kernel_rfl), laid_eq] at h
  have hT : Lib.TabIs Tryd.prog W "wapentake/sha.table" .u32 tableZ := by
    refine Lib.tabIs_of_head (t := 189) (e := 165) (n := 64) gTable ?_ ?_ ?_ ?_ ?_ h
    · kernel_rfl
    · kernel_rfl
    · kernel_rfl
    · kernel_rfl
    · kernel_rfl
  intro n x hx
  unfold Gt at hx
  split at hx
  · rename_i hn
    subst hn
    cases hx
    refine ⟨by simp [closed, closeds, U, closeds_all], 0, 0, _, rfl, ?_, Es_ints table, ?_⟩
    · have h0 := hT.cell gTable 0 (by decide)
      show 0 < W.heap.size
      rcases Nat.eq_zero_or_pos W.heap.size with h1 | h1
      · simp [World.cell?, Array.getElem?_eq_none (Nat.le_of_eq h1)] at h0
      · exact h1
    · intro j u hu
      have hj : j < table.length := by
        rcases Nat.lt_or_ge j table.length with h1 | h1
        · exact h1
        · rw [List.getElem?_eq_none (by simpa using h1)] at hu
          cases hu
      have h1 := hT.cell gTable j (by simpa [tableZ] using hj)
      rw [Nat.zero_add, h1]
      simp [List.getElem?_eq_getElem hj] at hu
      rw [← hu]
      simp [tableZ, List.getD_eq_getElem?_getD, List.getElem?_eq_getElem hj]
  · cases hx
end Go.Proofs.YtjlmpdbagmdbiaaDoor.WL

end
section
/-
  CHAPTER 15: chains, without any program.
-/
namespace Go.Proofs.YtjlmpdbagmdbiaaDoor.WL
open Go

/-- A chain that leads: its end's configuration and height. -/
theorem runK_ok : ∀ (ls : List Lnk) (c : Conf) (h : Int) (i : Nat), (runK c h ls i).2.2 = 0 → (runK c h ls i).2.1 = i + ls.length
  | [], c, h, i, _ => rfl
  | l :: ls, c, h, i, hk => by
    unfold runK at hk ⊢
    by_cases e : stepK c h l = 0
    · rw [if_pos e] at hk ⊢
      have := runK_ok ls _ _ _ hk
      rw [this, List.length_cons]
      omega
    · rw [if_neg e] at hk
      exact absurd hk e
def lastH (h : Int) (ls : List Lnk) : Int := match ls.getLast? with
  | some l => l.blk.height
  | none => h
theorem runK_app : ∀ (ls ks : List Lnk) (c : Conf) (h : Int) (i : Nat), runK c h (ls ++ ks) i = if (runK c h ls i).2.2 = 0 then runK (runK c h ls i).1 (lastH h ls) ks (i + ls.length) else runK c h ls i
  | [], ks, c, h, i => by
    have e : runK c h [] i = (c, i, 0) := rfl
    rw [e, if_pos rfl]
    rfl
  | l :: ls, ks, c, h, i => by
    by_cases e : stepK c h l = 0
    · have e1 : runK c h (l :: ls ++ ks) i = runK l.conf l.blk.height (ls ++ ks) (i + 1) := by
        show (if stepK c h l = 0 then _ else _) = _
        rw [if_pos e]
        rfl
      have e2 : runK c h (l :: ls) i = runK l.conf l.blk.height ls (i + 1) := by
        show (if stepK c h l = 0 then _ else _) = _
        rw [if_pos e]
      rw [e1, e2, runK_app ls ks]
      have e3 : lastH h (l :: ls) = lastH l.blk.height ls := by
        cases ls with
        | nil => rfl
        | cons k ks =>
          have : ∃ y, (k :: ks).getLast? = some y := ⟨_, List.getLast?_eq_some_getLast (by simp)⟩
          obtain ⟨y, hy⟩ := this
          simp [lastH, hy]
      rw [e3, List.length_cons]
      congr 2
      omega
    · have e1 : runK c h (l :: ls ++ ks) i = (Conf.zero, i, stepK c h l) := by
        show (if stepK c h l = 0 then _ else _) = _
        rw [if_neg e]
      have e2 : runK c h (l :: ls) i = (Conf.zero, i, stepK c h l) := by
        show (if stepK c h l = 0 then _ else _) = _
        rw [if_neg e]
      rw [e1, e2, if_neg e]
theorem checkL_ok {c : Conf} {ls : List Lnk} (h : (checkL c ls).2.2 = 0) : c.good = true ∧ checkL c ls = runK c 0 ls 0 ∧ (checkL c ls).2.1 = ls.length := by
  unfold checkL at h ⊢
  cases hg : c.good
  · rw [if_pos hg] at h
    simp at h
  · rw [if_neg (by simp [hg])] at h ⊢
    by_cases hl : 1024 < ls.length
    · rw [if_pos hl] at h
      simp at h
    · rw [if_neg hl] at h ⊢
      refine ⟨rfl, rfl, ?_⟩
      rw [runK_ok ls c 0 0 h]
      omega
theorem checkL_grow {c : Conf} {ls : List Lnk} {l : Lnk} (h : (checkL c ls).2.2 = 0) (hl : ls.length ≤ 1000) : checkL c (ls ++ [l]) = if stepK (checkL c ls).1 (lastH 0 ls) l = 0 then (l.conf, ls.length + 1, 0) else (Conf.zero, ls.length, stepK (checkL c ls).1 (lastH 0 ls) l) := by
  obtain ⟨h1, h2, h3⟩ := checkL_ok h
  have h4 : (runK c 0 ls 0).2.2 = 0 := by rw [← h2]; exact h
  have e : checkL c (ls ++ [l]) = runK c 0 (ls ++ [l]) 0 := by
    unfold checkL
    rw [if_neg (by simp [h1]), if_neg (by simp; omega)]
  rw [e, runK_app, if_pos h4, h2, Nat.zero_add]
  rfl
end Go.Proofs.YtjlmpdbagmdbiaaDoor.WL

end
section
/-
  CHAPTER 15: walks of laws: a chain goes on.
-/
namespace Go.Proofs.YtjlmpdbagmdbiaaDoor.WL
open Go
set_option maxHeartbeats 8000000
variable {G : Nat → Option AV}
theorem tames_snoc {c : Conf} {ls : List Lnk} {l : Lnk} (h1 : Tames c ls) (h2 : Tames c [l]) (hl : ls.length ≤ 6) : Tames c (ls ++ [l]) := by
  refine ⟨by simp; omega, h1.cms, h1.heights, fun k hk => ?_⟩
  rcases List.mem_append.1 hk with h | h
  · exact h1.links k h
  · exact h2.links k h
theorem lastH_pos {h : Int} {ls : List Lnk} (hp : 0 < ls.length) : lastH h ls = (ls[ls.length - 1]).blk.height := by
  unfold lastH
  rw [List.getLast?_eq_getElem?, List.getElem?_eq_getElem (by omega)]
theorem runK_inv {Q : Conf → Prop} (hz : Q Conf.zero) : ∀ (ls : List Lnk) (c : Conf) (h : Int) (i : Nat), Q c → (∀ l ∈ ls, Q l.conf) → Q (runK c h ls i).1
  | [], c, h, i, hc, _ => hc
  | l :: ls, c, h, i, hc, hl => by
    unfold runK
    split
    · exact runK_inv hz ls _ _ _ (hl l List.mem_cons_self) (fun k hk => hl k (List.mem_cons_of_mem _ hk))
    · exact hz
theorem checkL_calm {c : Conf} {ls : List Lnk} (ht : Tames c ls) : (checkL c ls).1.calm := by
  have hz : Conf.zero.calm := by simp [Conf.calm, Conf.zero]
  unfold checkL
  split
  · exact hz
  · split
    · exact hz
    · exact runK_inv hz ls _ _ _ ⟨ht.cms, ht.heights⟩ (fun l hl => ht.calm hl)
attribute [local irreducible] sha comp hb checkK idxOf Vote.signs Vote.good rightV Conf.good Blk.good Blk.dg quorum checkC Conf.dg stepK runK checkL

theorem chainGrows_walk (c : Conf) (ls : List Lnk) (l : Lnk) (hm : ∀ m ∈ c.ms, W64 m.height) (hl : ∀ k ∈ ls, (∀ m ∈ k.conf.ms, W64 m.height) ∧ ∀ v ∈ k.cert.votes, W64 v.sig.leaf) (hl2 : (∀ m ∈ l.conf.ms, W64 m.height) ∧ ∀ v ∈ l.cert.votes, W64 v.sig.leaf)
    (hf : ∀ k ∈ ls, ∀ q ∈ k.blk.qs, q.key.length ≤ reachBytes ∧ q.val.length ≤ reachBytes ∧ q.old.length ≤ reachBytes) (hf2 : ∀ q ∈ l.blk.qs, q.key.length ≤ reachBytes ∧ q.val.length ≤ reachBytes ∧ q.old.length ≤ reachBytes) :
    Meets Tryd.prog Gt fn_l15_ChainGrows [c.av, .sl 103 (Lnks ls), l.av] [] true (.v (.bool true)) [] := by
  refine meets_of_go mix k_l15_ChainGrows ⟨by simp, by simp, by simp⟩ ?_
  have m1 := great15_meets (G := Gt) c ls hf
  have m2 := great15_meets (G := Gt) c [l] (fun k hk => by rw [List.mem_singleton.1 hk]; exact hf2)
  have hv1 : [l.av] = Lnks [l] := rfl
  cases hg : greatN c ls
  case true =>
    rw [hg] at m1
    simp
    refine call_intro alive15_meets ?_ ?_
    · simp
    simp
    refine call_intro m1 ?_ ?_
    · simp
    simp
    refine post_end (.inr rfl) ?_
    simp
  rw [hg] at m1
  cases hg2 : greatN c [l]
  case true =>
    rw [hg2] at m2
    simp
    refine call_intro alive15_meets ?_ ?_
    · simp
    simp
    refine call_intro m1 ?_ ?_
    · simp
    simp
    refine call_intro m2 ?_ ?_
    · simp [hv1]
    simp [hv1]
    refine post_end (.inr rfl) ?_
    simp
  rw [hg2] at m2
  by_cases c5 : (5 : Int) < (ls.length : Nat)
  · simp
    refine call_intro alive15_meets ?_ ?_
    · simp
    simp
    refine call_intro m1 ?_ ?_
    · simp
    simp
    refine call_intro m2 ?_ ?_
    · simp [hv1]
    simp [hv1, c5]
    refine post_end (.inr rfl) ?_
    simp
  have ht := tames_of hg hm hl
  have ht2 := tames_of hg2 hm (fun k hk => by rw [List.mem_singleton.1 hk]; exact hl2)
  have ht3 := tames_snoc ht ht2 (by omega)
  have hfew : ls.length ≤ 5 := by omega
  have m3 := chcheck_meets c ls ht
  have m4 := chcheck_meets c (ls ++ [l]) ht3
  have hcf := checkL_few ht
  unfold chAv at m3 m4
  by_cases h0 : (checkL c ls).2.2 = 0
  case neg =>
    generalize checkL c ls = res at *
    simp
    refine call_intro alive15_meets ?_ ?_
    · simp
    simp
    refine call_intro m1 ?_ ?_
    · simp
    simp
    refine call_intro m2 ?_ ?_
    · simp [hv1]
    simp [hv1, c5]
    refine call_intro m3 ?_ ?_
    · simp
    simp [h0]
    refine post_end (.inr rfl) ?_
    simp
  obtain ⟨_, _, hn⟩ := checkL_ok h0
  have hgrow := checkL_grow (l := l) h0 (by omega)
  have hcalm := checkL_calm ht
  have hlp := @lastH_pos 0 ls
  have hl0 : ls = [] → lastH 0 ls = 0 := fun h => by subst h; rfl
  have m5 := step_meets (checkL c ls).1 (lastH 0 ls) l (ht2.tame (List.mem_singleton.2 rfl) hcalm)
  have m6 := csame_refl (G := Gt) l.conf (ht2.links l (List.mem_singleton.2 rfl)).1
  rw [hgrow] at m4
  rw [h0, hn] at m3
  clear hgrow h0 hn ht ht2 ht3 hcalm
  generalize (checkL c ls).1 = d at *
  generalize lastH 0 ls = hh at *
  generalize stepK d hh l = e at *
  have f1 : fitsB ls.length 200 := fits (by omega) (by omega)
  have f2 : fitsB (ls.length + 1) 200 := fits (by omega) (by omega)
  have hw : IntKind.i64.wrap ((ls.length : Int) + 1) = ((ls.length + 1 : Nat) : Int) := w64_succ (by omega)
  have hw2 : IntKind.i64.wrap ((ls.length : Int) - 1) = (ls.length : Int) - 1 := w64_id (by omega)
  have htk : List.take (ls.length + 1) (Lnks (ls ++ [l])) = Lnks (ls ++ [l]) := List.take_of_length_le (by simp)
  have hsub : sub true 2 l.av 101 = some l.conf.av := by simp [Lnk.av, Blk.avS, Cert.av, Conf.av, dv]
  have hvl : Lnks ls ++ [l.av] = Lnks (ls ++ [l]) := by rw [hv1]; simp
  by_cases he : e = 0
  · rw [if_pos he] at m4
    subst he
    by_cases hp : 0 < ls.length
    · have hh1 := hlp hp
      have hidx : ((ls.length : Int) - 1).toNat = ls.length - 1 := by omega
      have hidx2 : (ls.length : Int) - 1 < (ls.length : Nat) := by omega
      have hpi : (1 : Int) ≤ (ls.length : Nat) := by omega
      have hlt : ls.length - 1 < ls.length := by omega
      subst hh1
      obtain ⟨u, hu0⟩ : ∃ u, ls[ls.length - 1] = u := ⟨_, rfl⟩
      have hu : u.av = .node [u.blk.avS, u.cert.av, u.conf.av] := rfl
      have hu2 : u.blk.avS = .node [.v (.int .i64 u.blk.epoch), .v (.int .i64 u.blk.height), dv u.blk.prev, dv u.blk.state, dv u.blk.next, .sl 42 (Reqs u.blk.qs)] := rfl
      rw [hu0] at m5
      simp
      refine call_intro alive15_meets ?_ ?_
      · simp
      simp
      refine call_intro m1 ?_ ?_
      · simp
      simp
      refine call_intro m2 ?_ ?_
      · simp [hv1]
      simp [hv1, c5]
      refine call_intro m3 ?_ ?_
      · simp
      simp [hp, hpi, hw2, hidx, hidx2, hlt, hu0, hu, hu2, f1, f2, hvl]
      refine call_intro m4 ?_ ?_
      · simp [hvl, htk]
      simp [hvl, htk]
      refine call_intro m5 ?_ ?_
      · simp
      simp [hw, hsub]
      refine call_intro m6 ?_ ?_
      · simp
      simp
      refine post_end (.inr rfl) ?_
      simp
    · have hz := hl0 (List.length_eq_zero_iff.1 (by omega))
      subst hz
      simp
      refine call_intro alive15_meets ?_ ?_
      · simp
      simp
      refine call_intro m1 ?_ ?_
      · simp
      simp
      refine call_intro m2 ?_ ?_
      · simp [hv1]
      simp [hv1, c5]
      refine call_intro m3 ?_ ?_
      · simp
      simp [hp, f1, f2, hvl]
      refine call_intro m4 ?_ ?_
      · simp [hvl, htk]
      simp [hvl, htk]
      refine call_intro m5 ?_ ?_
      · simp
      simp [hw, hsub]
      refine call_intro m6 ?_ ?_
      · simp
      simp
      refine post_end (.inr rfl) ?_
      simp
  · rw [if_neg he] at m4
    by_cases hp : 0 < ls.length
    · have hh1 := hlp hp
      have hidx : ((ls.length : Int) - 1).toNat = ls.length - 1 := by omega
      have hidx2 : (ls.length : Int) - 1 < (ls.length : Nat) := by omega
      have hpi : (1 : Int) ≤ (ls.length : Nat) := by omega
      have hlt : ls.length - 1 < ls.length := by omega
      subst hh1
      obtain ⟨u, hu0⟩ : ∃ u, ls[ls.length - 1] = u := ⟨_, rfl⟩
      have hu : u.av = .node [u.blk.avS, u.cert.av, u.conf.av] := rfl
      have hu2 : u.blk.avS = .node [.v (.int .i64 u.blk.epoch), .v (.int .i64 u.blk.height), dv u.blk.prev, dv u.blk.state, dv u.blk.next, .sl 42 (Reqs u.blk.qs)] := rfl
      rw [hu0] at m5
      simp
      refine call_intro alive15_meets ?_ ?_
      · simp
      simp
      refine call_intro m1 ?_ ?_
      · simp
      simp
      refine call_intro m2 ?_ ?_
      · simp [hv1]
      simp [hv1, c5]
      refine call_intro m3 ?_ ?_
      · simp
      simp [hp, hpi, hw2, hidx, hidx2, hlt, hu0, hu, hu2, f1, f2, hvl]
      refine call_intro m4 ?_ ?_
      · simp [hvl, htk]
      simp [hvl, htk]
      refine call_intro m5 ?_ ?_
      · simp
      simp [he, hw]
      refine post_end (.inr rfl) ?_
      simp
    · have hz := hl0 (List.length_eq_zero_iff.1 (by omega))
      subst hz
      simp
      refine call_intro alive15_meets ?_ ?_
      · simp
      simp
      refine call_intro m1 ?_ ?_
      · simp
      simp
      refine call_intro m2 ?_ ?_
      · simp [hv1]
      simp [hv1, c5]
      refine call_intro m3 ?_ ?_
      · simp
      simp [hp, f1, f2, hvl]
      refine call_intro m4 ?_ ?_
      · simp [hvl, htk]
      simp [hvl, htk]
      refine call_intro m5 ?_ ?_
      · simp
      simp [he, hw]
      refine post_end (.inr rfl) ?_
      simp
end Go.Proofs.YtjlmpdbagmdbiaaDoor.WL

end
section
/-
  CHAPTER 15: a chain's parts, without any program.
-/
namespace Go.Proofs.YtjlmpdbagmdbiaaDoor.WL
open Go

theorem checkC_epoch {c : Conf} {b : Blk} {x : Cert} (h : checkC c b x = true) : b.epoch = c.epoch := by
  simp only [checkC, Bool.and_eq_true, decide_eq_true_eq] at h
  exact h.1.1.2
theorem stepK_ok {c : Conf} {h : Int} {l : Lnk} (e : stepK c h l = 0) : h < l.blk.height ∧ l.conf.good = true ∧ c.epoch < l.conf.epoch ∧ l.blk.epoch = c.epoch ∧ ∀ k, k < l.blk.height → stepK c k l = 0 := by
  unfold stepK at e
  split at e
  · cases e
  rename_i h1
  split at e
  · cases e
  rename_i h2
  split at e
  case isFalse => cases e
  rename_i h3
  have hg : l.conf.good = true := by cases hc : l.conf.good <;> simp_all
  have hc : checkC c l.blk l.cert = true := by cases hc : checkC c l.blk l.cert <;> simp_all
  refine ⟨by omega, hg, by omega, checkC_epoch hc, fun k hk => ?_⟩
  unfold stepK
  rw [if_neg (by simp [hg]; omega), if_neg (by simp [hc]), if_pos h3]
theorem runK_idx : ∀ (ls : List Lnk) (c : Conf) (h : Int) (i : Nat), runK c h ls i = ((runK c h ls 0).1, i + (runK c h ls 0).2.1, (runK c h ls 0).2.2)
  | [], c, h, i => rfl
  | l :: ls, c, h, i => by
    unfold runK
    by_cases e : stepK c h l = 0
    · rw [if_pos e, if_pos e, runK_idx ls _ _ (i + 1), runK_idx ls _ _ (0 + 1)]
      dsimp only
      congr 2
      omega
    · rw [if_neg e, if_neg e]
      rfl
theorem runK_le : ∀ (ls : List Lnk) (c : Conf) (h : Int) (i : Nat), i ≤ (runK c h ls i).2.1
  | [], c, h, i => Nat.le_refl _
  | l :: ls, c, h, i => by
    unfold runK
    by_cases e : stepK c h l = 0
    · rw [if_pos e]
      exact Nat.le_trans (Nat.le_succ i) (runK_le ls _ _ (i + 1))
    · rw [if_neg e]
      exact Nat.le_refl _
/-- A chain that leads, from a lower height too. -/
theorem runK_low {ls : List Lnk} {c : Conf} {h k : Int} (hk : k ≤ h) (e : (runK c h ls 0).2.2 = 0) : runK c k ls 0 = runK c h ls 0 := by
  cases ls with
  | nil => rfl
  | cons l ls =>
    unfold runK at e ⊢
    by_cases e1 : stepK c h l = 0
    · obtain ⟨h1, _, _, _, h2⟩ := stepK_ok e1
      rw [if_pos e1, if_pos (h2 k (by omega))]
    · rw [if_neg e1] at e
      exact absurd e e1
theorem runK_good : ∀ (ls : List Lnk) (c : Conf) (h : Int), c.good = true → (runK c h ls 0).2.2 = 0 → (runK c h ls 0).1.good = true
  | [], c, h, hc, _ => hc
  | l :: ls, c, h, hc, e => by
    unfold runK at e ⊢
    by_cases e1 : stepK c h l = 0
    · rw [if_pos e1] at e ⊢
      rw [runK_idx] at e ⊢
      exact runK_good ls _ _ (stepK_ok e1).2.1 e
    · rw [if_neg e1] at e
      exact absurd e e1
/-- The configuration and the height ahead of link j. -/
def atE (c : Conf) (ls : List Lnk) (j : Nat) : Int := match j with
  | 0 => c.epoch
  | i + 1 => match ls[i]? with
    | some l => l.conf.epoch
    | none => 0
def atH (h : Int) (ls : List Lnk) (j : Nat) : Int := match j with
  | 0 => h
  | i + 1 => match ls[i]? with
    | some l => l.blk.height
    | none => 0
theorem runK_rise : ∀ (ls : List Lnk) (c : Conf) (h : Int), (runK c h ls 0).2.2 = 0 → ∀ j (hj : j < ls.length), atE c ls j < (ls[j]).conf.epoch ∧ atH h ls j < (ls[j]).blk.height ∧ (ls[j]).blk.epoch = atE c ls j
  | [], c, h, _, j, hj => absurd hj (Nat.not_lt_zero _)
  | l :: ls, c, h, e, j, hj => by
    unfold runK at e
    by_cases e1 : stepK c h l = 0
    · rw [if_pos e1] at e
      rw [runK_idx] at e
      obtain ⟨h1, _, h2, h3, _⟩ := stepK_ok e1
      cases j with
      | zero => exact ⟨h2, h1, h3⟩
      | succ j =>
        have ih := runK_rise ls l.conf l.blk.height e j (by simpa using hj)
        cases j with
        | zero => exact ih
        | succ j => exact ih
    · rw [if_neg e1] at e
      exact absurd e e1
theorem lastH_up : ∀ (ls : List Lnk) (c : Conf) (h : Int), (runK c h ls 0).2.2 = 0 → h ≤ lastH h ls
  | [], c, h, _ => Int.le_refl _
  | l :: ls, c, h, e => by
    unfold runK at e
    by_cases e1 : stepK c h l = 0
    · rw [if_pos e1, runK_idx] at e
      have ih := lastH_up ls l.conf l.blk.height e
      obtain ⟨h1, _⟩ := stepK_ok e1
      have e3 : lastH h (l :: ls) = lastH l.blk.height ls := by
        cases ls with
        | nil => rfl
        | cons k ks =>
          obtain ⟨y, hy⟩ : ∃ y, (k :: ks).getLast? = some y := ⟨_, List.getLast?_eq_some_getLast (by simp)⟩
          simp [lastH, hy]
      rw [e3]
      omega
    · rw [if_neg e1] at e
      exact absurd e e1
/-- A chain's parts. -/
theorem checkL_parts (c : Conf) (ls : List Lnk) (a : Nat) (ha : a ≤ ls.length) (hl : ls.length ≤ 1000) :
    ((checkL c ls).2.2 ≠ 0 → ((checkL c (ls.take a)).2.2 = 0 ∧ (checkL c (ls.take a)).2.1 = a ∧ a ≤ (checkL c ls).2.1) ∨ ((checkL c (ls.take a)).2.2 = (checkL c ls).2.2 ∧ (checkL c (ls.take a)).2.1 = (checkL c ls).2.1)) ∧
    ((checkL c ls).2.2 = 0 → (checkL c (ls.take a)).2.2 = 0 ∧ (checkL c ls).2.1 = ls.length ∧ (checkL (checkL c (ls.take a)).1 (ls.drop a)).2.2 = 0 ∧ (checkL (checkL c (ls.take a)).1 (ls.drop a)).1 = (checkL c ls).1 ∧
      ∀ j (hj : j < ls.length), atE c ls j < (ls[j]).conf.epoch ∧ atH 0 ls j < (ls[j]).blk.height ∧ (ls[j]).blk.epoch = atE c ls j) := by
  have hlt : (ls.take a).length = a := by rw [List.length_take]; omega
  have happ := runK_app (ls.take a) (ls.drop a) c 0 0
  rw [List.take_append_drop, hlt, Nat.zero_add] at happ
  cases hg : c.good
  · have h1 : checkL c ls = (Conf.zero, 0, 1) := by unfold checkL; rw [if_pos hg]
    have h2 : checkL c (ls.take a) = (Conf.zero, 0, 1) := by unfold checkL; rw [if_pos hg]
    rw [h1, h2]
    exact ⟨fun _ => .inr ⟨rfl, rfl⟩, fun h => by cases h⟩
  · have h1 : checkL c ls = runK c 0 ls 0 := by unfold checkL; rw [if_neg (by simp [hg]), if_neg (by omega)]
    have h2 : checkL c (ls.take a) = runK c 0 (ls.take a) 0 := by unfold checkL; rw [if_neg (by simp [hg]), if_neg (by omega)]
    rw [h1, h2]
    by_cases e : (runK c 0 (ls.take a) 0).2.2 = 0
    · rw [if_pos e] at happ
      have hn := runK_ok (ls.take a) c 0 0 e
      rw [hlt, Nat.zero_add] at hn
      refine ⟨fun _ => .inl ⟨e, hn, ?_⟩, fun h0 => ⟨e, ?_, ?_⟩⟩
      · rw [happ]
        exact runK_le _ _ _ _
      · have := runK_ok ls c 0 0 h0
        omega
      · have hgood := runK_good (ls.take a) c 0 hg e
        have hup := lastH_up (ls.take a) c 0 e
        have h3 : checkL (runK c 0 (ls.take a) 0).1 (ls.drop a) = runK (runK c 0 (ls.take a) 0).1 0 (ls.drop a) 0 := by
          unfold checkL
          rw [if_neg (by simp [hgood]), if_neg (by rw [List.length_drop]; omega)]
        rw [h3]
        have h0' := h0
        rw [happ, runK_idx] at h0'
        have h4 := runK_low hup h0'
        rw [h4]
        refine ⟨h0', ?_, runK_rise ls c 0 h0⟩
        rw [happ, runK_idx _ _ _ a]
    · rw [if_neg e] at happ
      refine ⟨fun _ => .inr ?_, fun h0 => ?_⟩
      · rw [happ]
        exact ⟨rfl, rfl⟩
      · rw [happ] at h0
        exact absurd h0 e
end Go.Proofs.YtjlmpdbagmdbiaaDoor.WL

end
section
/-
  CHAPTER 15: walks of laws: a chain's parts.
-/
namespace Go.Proofs.YtjlmpdbagmdbiaaDoor.WL
open Go
set_option maxHeartbeats 8000000
variable {G : Nat → Option AV}
theorem tames_sub {c d : Conf} {ls ks : List Lnk} (h : Tames c ls) (hd : d.calm) (hs : ∀ k ∈ ks, k ∈ ls) (hl : ks.length ≤ 1000) : Tames d ks := ⟨hl, hd.1, hd.2, fun k hk => h.links k (hs k hk)⟩
theorem atE_next {c : Conf} {ls : List Lnk} {j : Nat} {l : Lnk} (hj : j < ls.length) (hl : ls[j] = l) : atE c ls (j + 1) = l.conf.epoch := by
  unfold atE
  simp only [List.getElem?_eq_getElem hj, hl]
theorem atH_next {h : Int} {ls : List Lnk} {j : Nat} {l : Lnk} (hj : j < ls.length) (hl : ls[j] = l) : atH h ls (j + 1) = l.blk.height := by
  unfold atH
  simp only [List.getElem?_eq_getElem hj, hl]
theorem atE_zero (c : Conf) (ls : List Lnk) : atE c ls 0 = c.epoch := rfl
theorem atH_zero (h : Int) (ls : List Lnk) : atH h ls 0 = h := rfl
attribute [local irreducible] sha comp hb checkK idxOf Vote.signs Vote.good rightV Conf.good Blk.good Blk.dg quorum checkC Conf.dg stepK runK checkL atE atH

theorem chainParts_walk (c : Conf) (ls : List Lnk) (a : Int) (hm : ∀ m ∈ c.ms, W64 m.height) (hl : ∀ k ∈ ls, (∀ m ∈ k.conf.ms, W64 m.height) ∧ ∀ v ∈ k.cert.votes, W64 v.sig.leaf)
    (hf : ∀ k ∈ ls, ∀ q ∈ k.blk.qs, q.key.length ≤ reachBytes ∧ q.val.length ≤ reachBytes ∧ q.old.length ≤ reachBytes) :
    Meets Tryd.prog Gt fn_l15_ChainParts [c.av, .sl 103 (Lnks ls), .v (.int .i64 a)] [] true (.v (.bool true)) [] := by
  refine meets_of_go mix k_l15_ChainParts ⟨by simp, by simp, by simp⟩ ?_
  have m1 := great15_meets (G := Gt) c ls hf
  cases hg : greatN c ls
  case true =>
    rw [hg] at m1
    simp
    refine call_intro alive15_meets ?_ ?_
    · simp
    simp
    refine call_intro m1 ?_ ?_
    · simp
    simp
    refine post_end (.inr rfl) ?_
    simp
  rw [hg] at m1
  by_cases c1 : a < 0
  · simp
    refine call_intro alive15_meets ?_ ?_
    · simp
    simp
    refine call_intro m1 ?_ ?_
    · simp
    simp [c1]
    refine post_end (.inr rfl) ?_
    simp
  by_cases c2 : (ls.length : Int) < a
  · simp
    refine call_intro alive15_meets ?_ ?_
    · simp
    simp
    refine call_intro m1 ?_ ?_
    · simp
    simp [c1, c2]
    refine post_end (.inr rfl) ?_
    simp
  obtain ⟨n, rfl⟩ : ∃ n : Nat, a = (n : Nat) := ⟨a.toNat, by omega⟩
  have hn : n ≤ ls.length := by omega
  have hnb : (n : Int) ≤ (ls.length : Nat) := by omega
  have ht := tames_of hg hm hl
  have hfew := (greatN_no hg).2.1
  have ht2 : Tames c (ls.take n) := tames_sub ht ⟨ht.cms, ht.heights⟩ (fun k hk => List.mem_of_mem_take hk) (by rw [List.length_take]; omega)
  have ht3 : Tames (checkL c (ls.take n)).1 (ls.drop n) := tames_sub ht (checkL_calm ht2) (fun k hk => List.mem_of_mem_drop hk) (by rw [List.length_drop]; omega)
  obtain ⟨hbad, hok⟩ := checkL_parts c ls n hn (by omega)
  have m3 := chcheck_meets c ls ht
  have m4 := chcheck_meets c (ls.take n) ht2
  have m5 := chcheck_meets (checkL c (ls.take n)).1 (ls.drop n) ht3
  have m6 := csame_refl (G := Gt) (checkL c ls).1 (checkL_few ht)
  unfold chAv at m3 m4 m5
  generalize checkL c ls = res at *
  obtain ⟨rc, rn, re⟩ := res
  generalize checkL c (ls.take n) = mid at *
  obtain ⟨mc, mn, me⟩ := mid
  dsimp only at hbad hok m3 m4 m5 m6 ht3
  by_cases he : re = 0
  case neg =>
    rcases hbad he with ⟨rfl, rfl, h1⟩ | ⟨rfl, rfl⟩
    · have h1' : (mn : Int) ≤ (rn : Nat) := by omega
      simp
      refine call_intro alive15_meets ?_ ?_
      · simp
      simp
      refine call_intro m1 ?_ ?_
      · simp
      simp [c1, c2, hnb]
      refine call_intro m3 ?_ ?_
      · simp
      simp [hnb]
      refine call_intro m4 ?_ ?_
      · simp
      simp [he, h1']
      refine post_end (.inr rfl) ?_
      simp
    · simp
      refine call_intro alive15_meets ?_ ?_
      · simp
      simp
      refine call_intro m1 ?_ ?_
      · simp
      simp [c1, c2, hnb]
      refine call_intro m3 ?_ ?_
      · simp
      simp [hnb]
      refine call_intro m4 ?_ ?_
      · simp
      simp [he]
      refine post_end (.inr rfl) ?_
      simp
  subst he
  obtain ⟨rfl, rfl, h3, h4, h5⟩ := hok rfl
  generalize checkL mc (ls.drop n) = rest at *
  obtain ⟨dc, dn, de⟩ := rest
  dsimp only at h3 h4 m5
  subst h3 h4
  have hce : sub false 1 c.av 0 = some (.v (.int .i64 c.epoch)) := by simp [Conf.av]
  simp
  refine call_intro alive15_meets ?_ ?_
  · simp
  simp
  refine call_intro m1 ?_ ?_
  · simp
  simp [c1, c2, hnb]
  refine call_intro m3 ?_ ?_
  · simp
  simp [hnb]
  refine call_intro m4 ?_ ?_
  · simp
  simp [hnb]
  refine call_intro m5 ?_ ?_
  · simp
  simp [hce]
  refine go_up ls.length (fun j (_ : Unit) => True) (fun j (_ : Unit) q => ⟨[(7, .ptr 7 q 0), (13, .ptr 13 q 0), (15, .v (.int .i64 0)), (16, .v (.int .i64 (atE c ls j))), (17, .v (.int .i64 (atH 0 ls j))), (94, .sl 103 (Lnks ls)), (95, .v (.int .i64 (ls.length : Nat))), (96, .v (.int .i64 (j : Nat)))],
    [(7, .var q dc.av), (13, .var q dc.av)], q + 1⟩) () _ (Weak.re (by simp [atE_zero, atH_zero])) trivial ?_ ?_
  · intro j _ q hj _
    have hw : IntKind.i64.wrap ((j : Int) + 1) = ((j + 1 : Nat) : Int) := w64_succ (by omega)
    obtain ⟨l, hl1⟩ : ∃ l, ls[j] = l := ⟨_, rfl⟩
    obtain ⟨k1, k2, k3⟩ := h5 j hj
    rw [hl1] at k1 k2 k3
    have e1 := atE_next (c := c) hj hl1
    have e2 := atH_next (h := 0) hj hl1
    have k1' : ¬ l.conf.epoch ≤ atE c ls j := by omega
    have k2' : ¬ l.blk.height ≤ atH 0 ls j := by omega
    simp [hj, hl1, Lnk.av, Blk.avS, Cert.av, Conf.av, dv, k1', k2', k3, hw]
    exact ⟨(), _, Weak.re (by simp [e1, e2, Conf.av]), trivial⟩
  · intro _ q _
    simp
    refine call_intro m6 ?_ ?_
    · simp
    simp
    refine post_end (.inr rfl) ?_
    simp
end Go.Proofs.YtjlmpdbagmdbiaaDoor.WL

end
