/- Texts put together: L14w, T02. -/
import Derived.Test.YtjlmpdbagmdbiaaDoorWm12
import Derived.Test.YtjlmpdbagmdbiaaDoorRows
import Derived.ProofKit
import Derived.LaidMore
import Derived.Lib.LaidTab
section
/-
  CHAPTER 14: walks of laws: words, written and read.
-/
namespace Go.Proofs.YtjlmpdbagmdbiaaDoor.WL
open Go
set_option maxHeartbeats 8000000
variable {G : Nat → Option AV}
theorem cert_bytes12 {x : Cert} (hl : x.votes.length ≤ 12) : (if x.ok = true then x.bytes else []).length ≤ 40000 := by
  by_cases h : x.ok = true
  · rw [if_pos h]
    have := certB_len h (by omega)
    omega
  · rw [if_neg h]; simp
attribute [local irreducible] sha comp hb checkK idxOf Vote.signs Vote.good rightV Conf.good Blk.good Blk.dg quorum checkC
attribute [local irreducible] Rd.sig Rd.sig' Rd.inn Rd.inn' Rd.dg Rd.dg' repR

theorem certWrites_walk (c : Conf) (b : Blk) (x : Cert) (bs : Bytes) (hm : ∀ m ∈ c.ms, W64 m.height) (hv : ∀ v ∈ x.votes, W64 v.sig.leaf)
    (hf : ∀ q ∈ b.qs, q.key.length ≤ reachBytes ∧ q.val.length ≤ reachBytes ∧ q.old.length ≤ reachBytes) :
    Meets Tryd.prog Gt fn_l14_CertWrites [c.av, b.avS, x.av, .sl 1 (B bs)] [] true (.v (.bool true)) [] := by
  refine meets_of_go mix k_l14_CertWrites ⟨by simp, by simp, by simp⟩ ?_
  have m1 := great14_meets (G := Gt) c b x hf
  cases hgr : greatC c b x
  case true =>
    rw [hgr] at m1
    simp [Conf.av, Blk.avS, Cert.av, dv]
    refine call_intro alive14_meets ?_ ?_
    · simp
    simp
    refine call_intro m1 ?_ ?_
    · simp [Conf.av, Blk.avS, Cert.av, dv]
    simp
    refine post_end (.inr rfl) ?_
    simp
  rw [hgr] at m1
  by_cases c1 : (65536 : Int) < (bs.length : Nat)
  · simp [Conf.av, Blk.avS, Cert.av, dv]
    refine call_intro alive14_meets ?_ ?_
    · simp
    simp
    refine call_intro m1 ?_ ?_
    · simp [Conf.av, Blk.avS, Cert.av, dv]
    simp [c1]
    refine post_end (.inr rfl) ?_
    simp
  obtain ⟨g1, g2, g3, g4, g5⟩ := greatC_no hgr
  obtain ⟨y, hy⟩ : ∃ y, (if x.ok = true then x.bytes else []) = y := ⟨_, rfl⟩
  have hyl : y.length ≤ 40000 := by rw [← hy]; exact cert_bytes12 g2
  have m2 : Meets Tryd.prog Gt fn_cert_Write [.ptr 1000 0 0, x.av] (wrM 0 []) true (.v (.bool x.ok)) (wrM 1 y) := by
    cases hk : x.ok
    · rw [hk] at hy
      have := twrite_bad (G := Gt) [] x hk (by omega)
      simpa [← hy] using this
    · rw [hk] at hy
      have := twrite_meets (G := Gt) [] x hk (by omega) (by simp)
      simpa [← hy] using this
  have m3 := rtbytes_meets (G := Gt) x (by omega)
  rw [hy] at m3
  have m4 := bytes_meets (G := Gt) y (by omega)
  obtain ⟨ts, hts, htl, hta⟩ : ∃ ts : List Bytes, ((rep 2 (AV.v (.string (mkS [])))).set 0 (.v (.string (mkS bs)))).set 1 (.v (.string (mkS y))) = Strs ts ∧ ts.length = 2 ∧ ∀ w ∈ ts, w.length ≤ 65536 :=
    ⟨[bs, y], rfl, rfl, fun w hw => by
      rcases List.mem_cons.1 hw with rfl | hw
      · omega
      · rw [List.mem_singleton] at hw; subst hw; omega⟩
  have m5 := ccheck_meets c b x (by omega) hm hv (by omega) (by omega) (by omega)
  have hback : checkC c b x = true → x.votes.length ≤ 10 → x.ok = true ∧ certF.rd (Rd.of y) = x ∧ (certF.rd' (Rd.of y)).done = true := fun h1 h2 => by
    have hg := certF_of h1 hv h2
    have hk := certF_okc hg
    rw [hk, if_pos rfl] at hy
    obtain ⟨h3, h4⟩ := cert_back hg
    rw [hy] at h3 h4
    exact ⟨hk, h3, by rw [h4]; rfl⟩
  have m6 : ∀ w : Bytes, w.length ≤ 65536 → Meets Tryd.prog Gt fn_code_Read [.sl 1 (B w)] [] true (.ptr 1000 1 0) _ := fun w hw => read_meets (G := Gt) w (fits (by omega) (by omega))
  have m7 := tread_meets (G := Gt)
  have m8 := rtread_meets (G := Gt)
  have m9 := good_meets (G := Gt)
  have m10 := rgood_meets (G := Gt)
  have m11 := end_meets (G := Gt)
  have m12 := rend_meets (G := Gt)
  have m13 : ∀ r : Rd, Meets Tryd.prog Gt fn_r14_Same [(certF.rd r).av, (certF.rd r).av] [] true (.v (.bool true)) [] := fun r => tsame_refl _ (cert_small r)
  have hofs : ∀ w : Bytes, (Rd.of w).s = w ∧ (Rd.of w).pre = [] ∧ (Rd.of w).bad = false := fun w => ⟨rfl, rfl, rfl⟩
  have hyt : List.take y.length y = y := List.take_of_length_le (by omega)
  have hky : (decide (x.ok = x.ok)) = true := by simp
  generalize hok : x.ok = ok at *
  generalize hch : checkC c b x = ch at *
  clear hy hok hch
  simp [Conf.av, Blk.avS, Cert.av, dv]
  refine call_intro alive14_meets ?_ ?_
  · simp
  simp
  refine call_intro m1 ?_ ?_
  · simp [Conf.av, Blk.avS, Cert.av, dv]
  simp [c1]
  refine call_intro m2 ?_ ?_
  · simp [wrM, Cert.av]
  simp [wrM, Cert.av]
  refine call_intro m3 ?_ ?_
  · simp [Cert.av]
  simp
  refine call_intro m4 ?_ ?_
  · simp [wrM]
  simp [wrM, hyt]
  refine go_up 2 (fun j (_ : Unit) => True) (fun j (_ : Unit) q => ⟨[(4, .ptr 4 q 0), (5, .ptr 5 q 0), (6, .ptr 6 q 0), (9, .ptr 9 q 0), (12, .v (.bool ok)), (53, .arr 1 (Strs ts)), (54, .v (.int .i64 (j : Nat)))],
    [(4, .var q c.av), (5, .var q b.avS), (6, .var q x.av), (9, .var q (.node [.row 1001 1 q 0 y.length])), (1001, .rows q 1 (B y))], q + 1⟩) () _ (Weak.re (by simp [hts, Conf.av, Blk.avS, Cert.av, dv])) trivial ?_ ?_
  · intro j _ q hj _
    have hw : IntKind.i64.wrap ((j : Int) + 1) = ((j + 1 : Nat) : Int) := w64_succ (by omega)
    have hj2 : j < ts.length := by omega
    have hw6 := hta _ (List.getElem_mem hj2)
    obtain ⟨w, hwe⟩ : ∃ w, ts[j] = w := ⟨_, rfl⟩
    rw [hwe] at hw6
    have k1 := m6 w hw6
    have k2 := m7 (Rd.of w)
    have k3 := m8 (Rd.of w)
    have k4 := m13 (Rd.of w)
    generalize certF.rd (Rd.of w) = rx at *
    generalize certF.rd' (Rd.of w) = rr at *
    have k5 := m9 rr
    have k6 := m10 rr
    have k7 := m11 rr
    have k8 := m12 rr
    have hwt : List.take w.length w = w := List.take_of_length_le (by omega)
    have hjj : (j : Int) < 2 := by omega
    have hge : ts[j]? = some w := by rw [List.getElem?_eq_getElem hj2, hwe]
    have hmx : w.length ≤ maxLen := le_max (by omega)
    simp [hjj, hj2, htl, hwe, hge, hmx]
    refine call_intro k1 ?_ ?_
    · simp
    simp
    refine call_intro k2 ?_ ?_
    · simp [rdM, hofs]
    simp [rdM, hofs]
    refine call_intro k3 ?_ ?_
    · simp [rfM, hofs]
    simp [rfM, hofs]
    refine call_intro k4 ?_ ?_
    · simp [Cert.av]
    simp
    refine call_intro k5 ?_ ?_
    · simp [rdM]
    simp [rdM]
    refine call_intro k6 ?_ ?_
    · simp [rfM]
    simp [rfM]
    refine call_intro k7 ?_ ?_
    · simp [rdM]
    simp [rdM]
    refine call_intro k8 ?_ ?_
    · simp [rfM]
    simp [rfM, hw]
    exact ⟨(), _, Weak.re (by simp [Conf.av, Blk.avS, Cert.av, dv]), trivial⟩
  · intro _ q _
    have k1 := m6 y (by omega)
    have k2 := m7 (Rd.of y)
    have k4 := m13 (Rd.of y)
    generalize certF.rd (Rd.of y) = rx at *
    generalize certF.rd' (Rd.of y) = rr at *
    have k7 := m11 rr
    simp
    refine call_intro m4 ?_ ?_
    · simp [wrM]
    simp [wrM, hyt]
    refine call_intro k1 ?_ ?_
    · simp
    simp
    refine call_intro k2 ?_ ?_
    · simp [rdM, hofs]
    simp [rdM, hofs, Cert.av]
    by_cases c5 : (10 : Int) < (x.votes.length : Nat)
    · simp [c5]
      refine post_end (.inr rfl) ?_
      simp
    have c5' : x.votes.length ≤ 10 := by omega
    simp [c5]
    refine call_intro m5 ?_ ?_
    · simp [Conf.av, Blk.avS, Cert.av, dv]
    simp
    cases ch
    · simp
      refine post_end (.inr rfl) ?_
      simp
    · obtain ⟨rfl, rfl, hd⟩ := hback rfl c5'
      rw [hd] at k7
      simp
      refine call_intro k7 ?_ ?_
      · simp [rdM]
      simp [rdM]
      refine call_intro k4 ?_ ?_
      · simp [Cert.av]
      simp
      refine post_end (.inr rfl) ?_
      simp
end Go.Proofs.YtjlmpdbagmdbiaaDoor.WL

end
section
/-
  CHAPTER 02: what the row's condition gives the walks: the table in the program's variable.
-/
namespace Go.Proofs.YtjlmpdbagmdbiaaDoor.WL
open Go

theorem gTable : Tryd.prog.globalNamed "wapentake/sha.table" = some 0 := by kernel_rfl
def tableZ : List Int := table.map w32
theorem laid_eq {H : Type} : (Rows.laid_wapentake_sha_table : DataW H) = Lib.tabData .u32 tableZ := rfl
theorem Es_ints {C : Ctx} : ∀ ws : List UInt32, Es C 1 (U ws) (ws.map fun z => Value.int .u32 (w32 z))
  | [] => rfl
  | w :: ws => ⟨[_], _, rfl, rfl, ⟨rfl, rfl⟩, Es_ints ws⟩
theorem gr_of_laid {W : World} (h : laidMetH Tryd.prog [("wapentake/sha.table", Rows.laid_wapentake_sha_table)] W) : GR ⟨W, fun k => k < W.heap.size, fun _ => none, fun _ => none, fun g => g = 0⟩ Gt := by
  rw [MakeChecks.laidMetH_plain _ _ _ (by kernel_rfl), laid_eq] at h
  have hT : Lib.TabIs Tryd.prog W "wapentake/sha.table" .u32 tableZ := by
    refine Lib.tabIs_of_head (t := 189) (e := 165) (n := 64) gTable ?_ ?_ ?_ ?_ ?_ h
    · kernel_rfl
    · kernel_rfl
    · kernel_rfl
    · kernel_rfl
    · kernel_rfl
  intro n x hx
  unfold Gt at hx
  split at hx
  · rename_i hn
    subst hn
    cases hx
    refine ⟨by simp [closed, closeds, U, closeds_all], 0, 0, _, rfl, ?_, Es_ints table, ?_⟩
    · have h0 := hT.cell gTable 0 (by decide)
      show 0 < W.heap.size
      rcases Nat.eq_zero_or_pos W.heap.size with h1 | h1
      · simp [World.cell?, Array.getElem?_eq_none (Nat.le_of_eq h1)] at h0
      · exact h1
    · intro j u hu
      have hj : j < table.length := by
        rcases Nat.lt_or_ge j table.length with h1 | h1
        · exact h1
        · rw [List.getElem?_eq_none (by simpa using h1)] at hu
          cases hu
      have h1 := hT.cell gTable j (by simpa [tableZ] using hj)
      rw [Nat.zero_add, h1]
      simp [List.getElem?_eq_getElem hj] at hu
      rw [← hu]
      simp [tableZ, List.getD_eq_getElem?_getD, List.getElem?_eq_getElem hj]
  · cases hx
end Go.Proofs.YtjlmpdbagmdbiaaDoor.WL

end
