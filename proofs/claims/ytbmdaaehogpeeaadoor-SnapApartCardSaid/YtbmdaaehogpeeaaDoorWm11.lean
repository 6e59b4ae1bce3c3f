/- Texts put together: S18f, S18g, S18h, S18i, S16a, S16b, S16d0, S16d1, S16d2. -/
import Derived.Test.YtbmdaaehogpeeaaDoorWm10
section
/-
  CHAPTER 18: reading snapshots.
-/
namespace Go.Proofs.YtbmdaaehogpeeaaDoor.WL
open Go
set_option maxHeartbeats 8000000
variable {G : Nat → Option AV}
attribute [local irreducible] comp hb sha

theorem text_len (r : Rd) (mx : Int) (h : (r.text' mx).bad = false) : (r.text mx).length ≤ r.s.length := by
  have := ((textF_law mx).one r h).2.2.1
  rw [this]
  show _ ≤ (txt (r.text mx) ++ _).length
  rw [List.length_append, txt_le]
  omega
theorem snText_le {b : Bytes} (h : (Rd.of b).n4.done = true) : (snText b).length ≤ b.length := by
  have hb : (Rd.of b).n4.bad = false := by
    unfold Rd.done at h
    simp at h
    exact h.1
  have h3 : (Rd.of b).n3.bad = false := ((textF_law 4194304).one _ hb).1
  have h2 : (Rd.of b).n2.bad = false := (dgF_law.one _ h3).1
  have h1 : (Rd.of b).n1.bad = false := ((inF_law 0 1024).one _ h2).1
  have e1 := (dgF_law.one _ h1).2.2.1
  have e2 := ((inF_law 0 1024).one _ h2).2.2.1
  have e3 := (dgF_law.one _ h3).2.2.1
  have l1 : (Rd.of b).n1.s.length ≤ b.length := by
    have h4 : (Rd.of b).s = b := rfl
    rw [h4] at e1
    have := congrArg List.length e1
    rw [List.length_append] at this
    exact Nat.le_trans (Nat.le_add_left _ _) (Nat.le_of_eq this.symm)
  have l2 : (Rd.of b).n2.s.length ≤ (Rd.of b).n1.s.length := by
    have := congrArg List.length e2
    rw [List.length_append] at this
    exact Nat.le_trans (Nat.le_add_left _ _) (Nat.le_of_eq this.symm)
  have l3 : (Rd.of b).n3.s.length ≤ (Rd.of b).n2.s.length := by
    have := congrArg List.length e3
    rw [List.length_append] at this
    exact Nat.le_trans (Nat.le_add_left _ _) (Nat.le_of_eq this.symm)
  have l4 := text_len (Rd.of b).n3 4194304 hb
  show ((Rd.of b).n3.text 4194304).length ≤ _
  omega
theorem snread_meets (b : Bytes) (hb : b.length ≤ 50000000) (h : snOk b = true) : Meets Tryd.prog Gt fn_snap_Read [.sl 1 (B b)] [] false (.tup [(snOf b).av, .v (.int .i64 0)]) [] := by
  refine meets_of_go mix k_snap_Read ⟨by simp, by simp, by simp⟩ ?_
  simp only [snOk, Bool.and_eq_true, decide_eq_true_eq] at h
  obtain ⟨⟨hd, hsh⟩, hso⟩ := h
  have h32 := Rd.flt4 hd
  have h32i : (32 : Int) ≤ (b.length : Nat) := by omega
  have htl := snText_le hd
  have hfb : fitsB b.length 1 := fits (by omega) (by omega)
  have m0 := read_meets (G := Gt) b hfb
  have m6 := cstate_meets (G := Gt) (snText b) (by omega) hso
  have e3 : cat [bSnap, b.drop 32] = bSnap ++ b.drop 32 := by simp [cat]
  have hrl : bSnap.length = 4 := rfl
  have hdl : (b.drop 32).length = b.length - 32 := List.length_drop
  have m7 := of_meets [bSnap, b.drop 32] (by simp) (by rw [e3, List.length_append, hrl]; omega)
  rw [e3, hsh] at m7
  have hav : (snOf b).av = .node [.v (.int .i64 ((Rd.of b).n1.inn 0 1024)), dv (Rd.of b).n2.dg, (stOf (snText b)).av] := rfl
  rw [hav]
  have m1 := digest_meets (G := Gt) (Rd.of b)
  have m2 := in_meets (G := Gt) (Rd.of b).n1 0 1024
  have m3 := digest_meets (G := Gt) (Rd.of b).n2
  have m4 := text_meets (G := Gt) (Rd.of b).n3 4194304
  have m5 := end_meets (G := Gt) (Rd.of b).n4
  rw [hd] at m5
  have hr0 : (Rd.of b).pre = [] ∧ (Rd.of b).s = b ∧ (Rd.of b).bad = false := ⟨rfl, rfl, rfl⟩
  have k1 : (Rd.of b).dg' = (Rd.of b).n1 := rfl
  have k2 : (Rd.of b).n1.inn' 0 1024 = (Rd.of b).n2 := rfl
  have k3 : (Rd.of b).n2.dg' = (Rd.of b).n3 := rfl
  have k4 : (Rd.of b).n3.text' 4194304 = (Rd.of b).n4 := rfl
  have k5 : (Rd.of b).n3.text 4194304 = snText b := rfl
  rw [k1] at m1
  rw [k2] at m2
  rw [k3] at m3
  rw [k4, k5] at m4
  clear k1 k2 k3 k4 k5 hav hsh e3 hso
  generalize (Rd.of b).n1.inn 0 1024 = ht at *
  generalize (Rd.of b).n2.dg = tip at *
  generalize (Rd.of b).dg = d at *
  generalize stOf (snText b) = S at *
  generalize snText b = tx at *
  generalize (Rd.of b).n4 = r4 at *
  generalize (Rd.of b).n3 = r3 at *
  generalize (Rd.of b).n2 = r2 at *
  generalize (Rd.of b).n1 = r1 at *
  generalize Rd.of b = r at *
  obtain ⟨p0, s0, b0⟩ := hr0
  have hB := B_snap
  generalize bSnap = sn at *
  have hr : List.take 4 sn = sn := List.take_of_length_le (by omega)
  have ftx : tx.length ≤ maxLen := by unfold maxLen; omega
  have htx : List.take tx.length tx = tx := List.take_of_length_le (by omega)
  have hbt : List.take b.length b = b := List.take_of_length_le (by omega)
  simp
  refine call_intro m0 ?_ ?_
  · simp
  simp
  refine call_intro m1 ?_ ?_
  · simp [rdM, p0, s0, b0]
  simp [rdM, p0, s0, b0]
  refine call_intro m2 ?_ ?_
  · simp [rdM]
  simp [rdM]
  refine call_intro m3 ?_ ?_
  · simp [rdM]
  simp [rdM]
  refine call_intro m4 ?_ ?_
  · simp [rdM]
  simp [rdM]
  refine call_intro m5 ?_ ?_
  · simp [rdM]
  simp [rdM, h32i, h32]
  refine call_intro m7 ?_ ?_
  · simp [Bss, hB, hr, hdl, h32]
  simp [ftx]
  refine call_intro m6 ?_ ?_
  · simp [htx]
  simp
  refine post_end (.inr rfl) ?_
  simp [dv]
end Go.Proofs.YtbmdaaehogpeeaaDoor.WL

end
section
/-
  CHAPTER 18: the reference's Read.
-/
namespace Go.Proofs.YtbmdaaehogpeeaaDoor.WL
open Go
set_option maxHeartbeats 8000000
variable {G : Nat → Option AV}
attribute [local irreducible] comp hb sha

theorem rsnread_meets (b : Bytes) (hb : b.length ≤ 50000000) : Meets Tryd.prog Gt fn_r18_Read [.v (.string (mkS b))] [] false (.tup [(snV b).av, .v (.int .i64 (snE b))]) [] := by
  refine meets_of_go mix k_r18_Read ⟨by simp, by simp, by simp⟩ ?_
  have hyes : snOk b = true → snV b = snOf b ∧ snE b = 0 := fun h => ⟨if_pos h, if_pos h⟩
  have hno : snOk b = false → snV b = Snp.zero ∧ snE b = 4 := fun h => ⟨if_neg (by simp [h]), if_neg (by simp [h])⟩
  have hof : (snOf b).av = .node [.v (.int .i64 ((Rd.of b).n1.inn 0 1024)), dv (Rd.of b).n2.dg, (stOf (snText b)).av] := rfl
  have hz : Snp.zero.av = .node [.v (.int .i64 0), dv Dg.zero, Sta.zero.av] := rfl
  have hdef : snOk b = ((Rd.of b).n4.done && decide (sha (bSnap ++ b.drop 32) = (Rd.of b).dg) && stOk (snText b)) := rfl
  have h32 : (Rd.of b).n4.done = true → 32 ≤ b.length := Rd.flt4
  have htl : (Rd.of b).n4.done = true → (snText b).length ≤ b.length := snText_le
  have hrl : bSnap.length = 4 := rfl
  have hdl : (b.drop 32).length = b.length - 32 := List.length_drop
  have m7 := rtext02_meets (bSnap ++ b.drop 32) (by rw [List.length_append, hrl]; omega)
  have m1 := rdigest_meets (G := Gt) (Rd.of b)
  have m2 := rin_meets (G := Gt) (Rd.of b).n1 0 1024
  have m3 := rdigest_meets (G := Gt) (Rd.of b).n2
  have m4 := rtext_meets (G := Gt) (Rd.of b).n3 4194304
  have m5 := rend_meets (G := Gt) (Rd.of b).n4
  have m6 := fun h => rstate_meets (G := Gt) (snText b) h
  have hr0 : (Rd.of b).s = b ∧ (Rd.of b).bad = false := ⟨rfl, rfl⟩
  have k1 : (Rd.of b).dg' = (Rd.of b).n1 := rfl
  have k2 : (Rd.of b).n1.inn' 0 1024 = (Rd.of b).n2 := rfl
  have k3 : (Rd.of b).n2.dg' = (Rd.of b).n3 := rfl
  have k4 : (Rd.of b).n3.text' 4194304 = (Rd.of b).n4 := rfl
  have k5 : (Rd.of b).n3.text 4194304 = snText b := rfl
  rw [k1] at m1
  rw [k2] at m2
  rw [k3] at m3
  rw [k4, k5] at m4
  clear k1 k2 k3 k4 k5
  have hsv : ∀ t, stOk t = true → stV t = stOf t ∧ stE t = 0 := fun t h => ⟨if_pos h, if_pos h⟩
  have hsn : ∀ t, stOk t = false → stE t = 4 := fun t h => if_neg (by simp [h])
  have hsv := hsv (snText b)
  have hsn := hsn (snText b)
  generalize snV b = V at *
  generalize snE b = E at *
  generalize snOf b = O at *
  generalize snOk b = K at *
  generalize (Rd.of b).n1.inn 0 1024 = ht at *
  generalize (Rd.of b).n2.dg = tip at *
  generalize (Rd.of b).dg = d at *
  generalize stOf (snText b) = S at *
  generalize stV (snText b) = S2 at *
  generalize stE (snText b) = E2 at *
  generalize stOk (snText b) = K2 at *
  generalize snText b = tx at *
  generalize (Rd.of b).n4 = r4 at *
  generalize (Rd.of b).n3 = r3 at *
  generalize (Rd.of b).n2 = r2 at *
  generalize (Rd.of b).n1 = r1 at *
  generalize Rd.of b = r at *
  obtain ⟨s0, b0⟩ := hr0
  have hc : ∀ z : Bytes, (115 :: 110 :: 97 :: 112 :: z : Bytes) = bSnap ++ z := fun _ => rfl
  generalize bSnap = sn at *
  generalize hsd : sha (sn ++ b.drop 32) = sd at *
  simp
  refine call_intro m1 ?_ ?_
  · simp [rfM, s0, b0]
  simp [rfM, s0, b0]
  refine call_intro m2 ?_ ?_
  · simp [rfM]
  simp [rfM]
  refine call_intro m3 ?_ ?_
  · simp [rfM]
  simp [rfM]
  refine call_intro m4 ?_ ?_
  · simp [rfM]
  simp [rfM]
  cases hd : r4.done with
  | false =>
    obtain ⟨hV, hE⟩ := hno (by rw [hdef, hd]; rfl)
    rw [hd] at m5
    rw [hV, hE, hz]
    refine call_intro m5 ?_ ?_
    · simp [rfM]
    simp [rfM]
    refine post_end (.inr rfl) ?_
    simp [Sta.zero, Sta.av, Conf.zero, Conf.av, dv]
  | true =>
    have q32 := h32 hd
    have q32i : (32 : Int) ≤ (b.length : Nat) := by omega
    have f1 : fitsS (4 + (b.length - 32)) := fitS (by omega)
    rw [hd] at m5
    have m6 := m6 (by have := htl hd; omega)
    by_cases hq : sd = d
    · cases hk2 : K2 with
      | true =>
        obtain ⟨hV, hE⟩ := hyes (by rw [hdef, hd, hk2]; simp [hq])
        obtain ⟨hs1, hs2⟩ := hsv hk2
        rw [hs1, hs2] at m6
        rw [hV, hE, hof]
        refine call_intro m5 ?_ ?_
        · simp [rfM]
        simp [rfM, q32, q32i, hdl, f1]
        refine call_intro m7 ?_ ?_
        · simp [hc]
        simp [hq]
        refine call_intro m6 ?_ ?_
        · simp
        simp
        refine post_end (.inr rfl) ?_
        simp [dv]
      | false =>
        obtain ⟨hV, hE⟩ := hno (by rw [hdef, hd, hk2]; simp)
        have hs2 := hsn hk2
        rw [hs2] at m6
        rw [hV, hE, hz]
        refine call_intro m5 ?_ ?_
        · simp [rfM]
        simp [rfM, q32, q32i, hdl, f1]
        refine call_intro m7 ?_ ?_
        · simp [hc]
        simp [hq]
        refine call_intro m6 ?_ ?_
        · simp
        simp
        refine post_end (.inr rfl) ?_
        simp [Sta.zero, Sta.av, Conf.zero, Conf.av, dv]
    · obtain ⟨hV, hE⟩ := hno (by rw [hdef, hd]; simp [hq])
      rw [hV, hE, hz]
      refine call_intro m5 ?_ ?_
      · simp [rfM]
      simp [rfM, q32, q32i, hdl, f1]
      refine call_intro m7 ?_ ?_
      · simp [hc]
      simp [hq]
      refine post_end (.inr rfl) ?_
      simp [Sta.zero, Sta.av, Conf.zero, Conf.av, dv]
end Go.Proofs.YtbmdaaehogpeeaaDoor.WL

end
section
/-
  CHAPTER 10: how great a state is.
-/
namespace Go.Proofs.YtbmdaaehogpeeaaDoor.WL
open Go
set_option maxHeartbeats 8000000
variable {G : Nat → Option AV}

def sumP (ps : List Pr) : Nat := (ps.map fun p => 1 + p.key.length + p.val.length).sum
def sumV (vs : List Bytes) : Nat := (vs.map fun v => 1 + v.length).sum
def sumR (rs : List Rep) : Nat := (rs.map fun a => sumV a.vals).sum
theorem sumP_take (ps : List Pr) {j : Nat} (h : j < ps.length) : sumP (ps.take (j + 1)) = sumP (ps.take j) + (1 + ps[j].key.length + ps[j].val.length) := by
  unfold sumP
  rw [← List.take_append_getElem h, List.map_append, List.sum_append]
  simp
theorem sumV_take (ps : List Bytes) {j : Nat} (h : j < ps.length) : sumV (ps.take (j + 1)) = sumV (ps.take j) + (1 + ps[j].length) := by
  unfold sumV
  rw [← List.take_append_getElem h, List.map_append, List.sum_append]
  simp
theorem sumR_take (ps : List Rep) {j : Nat} (h : j < ps.length) : sumR (ps.take (j + 1)) = sumR (ps.take j) + sumV ps[j].vals := by
  unfold sumR
  rw [← List.take_append_getElem h, List.map_append, List.sum_append]
  simp
theorem sumP_le (ps : List Pr) (j : Nat) : sumP (ps.take j) ≤ sumP ps := by
  have h : sumP (ps.take j ++ ps.drop j) = sumP (ps.take j) + sumP (ps.drop j) := by unfold sumP; rw [List.map_append, List.sum_append]
  rw [List.take_append_drop] at h
  omega
theorem sumV_le (ps : List Bytes) (j : Nat) : sumV (ps.take j) ≤ sumV ps := by
  have h : sumV (ps.take j ++ ps.drop j) = sumV (ps.take j) + sumV (ps.drop j) := by unfold sumV; rw [List.map_append, List.sum_append]
  rw [List.take_append_drop] at h
  omega
theorem sumR_le (ps : List Rep) (j : Nat) : sumR (ps.take j) ≤ sumR ps := by
  have h : sumR (ps.take j ++ ps.drop j) = sumR (ps.take j) + sumR (ps.drop j) := by unfold sumR; rw [List.map_append, List.sum_append]
  rw [List.take_append_drop] at h
  omega
def Sta.great (s : Sta) : Bool := decide (300 < s.pairs.length) || decide (100 < s.reps.length) || decide (20 < s.conf.ms.length) || (s.reps.any fun a => decide (300 < a.vals.length)) || decide (4096 < sumP s.pairs + sumR s.reps)
structure Sta.Fin (s : Sta) : Prop where
  ps : ∀ p ∈ s.pairs, p.key.length ≤ reachBytes ∧ p.val.length ≤ reachBytes
  rs : ∀ a ∈ s.reps, ∀ v ∈ a.vals, v.length ≤ reachBytes
theorem great10_meets (s : Sta) (hf : s.Fin) : Meets Tryd.prog G fn_r10_Great [s.av, .v (.int .i64 4096)] [] true (.v (.bool s.great)) [] := by
  refine meets_of_go mix k_r10_Great ⟨by simp, by simp, by simp⟩ ?_
  obtain ⟨hp, hr⟩ := hf
  have hg : s.great = (decide (300 < s.pairs.length) || decide (100 < s.reps.length) || decide (20 < s.conf.ms.length) || (s.reps.any fun a => decide (300 < a.vals.length)) || decide (4096 < sumP s.pairs + sumR s.reps)) := rfl
  have hav : s.av = .node [.sl 2 (Prs s.pairs), .sl 4 (Rps s.reps), .node [.v (.int .i64 s.conf.epoch), .sl 34 (Mems s.conf.ms)]] := rfl
  rw [hav]
  generalize s.great = g at *
  generalize s.pairs = ps at *
  generalize s.reps = rs at *
  generalize s.conf.ms = ms at *
  generalize s.conf.epoch = ep at *
  clear hav
  by_cases c1 : (300 : Int) < (ps.length : Nat)
  · have : g = true := by rw [hg]; simp [show 300 < ps.length by omega]
    simp [c1]
    refine post_end (.inr rfl) ?_
    simp [this]
  by_cases c2 : (100 : Int) < (rs.length : Nat)
  · have : g = true := by rw [hg]; simp [show 100 < rs.length by omega]
    simp [c1, c2]
    refine post_end (.inr rfl) ?_
    simp [this]
  by_cases c3 : (20 : Int) < (ms.length : Nat)
  · have : g = true := by rw [hg]; simp [show 20 < ms.length by omega]
    simp [c1, c2, c3]
    refine post_end (.inr rfl) ?_
    simp [this]
  have hyes : 4096 < sumP ps + sumR rs → g = true := fun h => by rw [hg]; simp [h]
  have hyes2 : (∃ a ∈ rs, 300 < a.vals.length) → g = true := fun ⟨a, ha, h⟩ => by
    have : (rs.any fun a => decide (300 < a.vals.length)) = true := List.any_eq_true.2 ⟨a, ha, by simpa using h⟩
    rw [hg, this]
    simp
  have hno : sumP ps + sumR rs ≤ 4096 → (∀ a ∈ rs, ¬ 300 < a.vals.length) → g = false := fun h h2 => by
    have : (rs.any fun a => decide (300 < a.vals.length)) = false := List.any_eq_false.2 fun a ha => by simpa using h2 a ha
    rw [hg, this]
    simp
    omega
  clear hg
  simp [c1, c2, c3]
  refine go_up ps.length (fun j (n : Nat) => n = sumP (ps.take j) ∧ n ≤ 4096) (fun j n c => ⟨[(1, .v (.int .i64 4096)), (2, .ptr 2 c 0), (5, .v (.int .i64 (n : Nat))), (30, .sl 2 (Prs ps)), (31, .v (.int .i64 (ps.length : Nat))), (32, .v (.int .i64 (j : Nat)))],
    [(2, .var c (.node [.sl 2 (Prs ps), .sl 4 (Rps rs), .node [.v (.int .i64 ep), .sl 34 (Mems ms)]]))], c + 1⟩) 0 _ (Weak.re (by simp)) (by simp [sumP]) ?_ ?_
  · rintro j n c hj ⟨hn, hn2⟩
    have hw : IntKind.i64.wrap ((j : Int) + 1) = ((j + 1 : Nat) : Int) := w64_succ (by omega)
    have hs := sumP_take ps hj
    rw [← hn] at hs
    have hle := sumP_le ps (j + 1)
    obtain ⟨q1, q2⟩ := hp ps[j] (List.getElem_mem hj)
    unfold reachBytes at q1 q2
    obtain ⟨x, hx⟩ : ∃ x, ps[j].key.length = x := ⟨_, rfl⟩
    obtain ⟨y, hy⟩ : ∃ y, ps[j].val.length = y := ⟨_, rfl⟩
    rw [hx] at hs q1
    rw [hy] at hs q2
    obtain ⟨m, hm⟩ : ∃ m, m = n + 1 + x + y := ⟨_, rfl⟩
    have w1 : IntKind.i64.wrap ((n : Int) + 1) = (n : Int) + 1 := w64_id (by omega)
    have w2 : IntKind.i64.wrap ((n : Int) + 1 + (x : Int)) = (n : Int) + 1 + (x : Int) := w64_id (by omega)
    have w3 : IntKind.i64.wrap ((n : Int) + 1 + (x : Int) + (y : Int)) = (m : Int) := by rw [w64_id (by omega)]; omega
    by_cases d : (4096 : Int) < (m : Int)
    · have hgt := hyes (by omega)
      simp [hj, prA, hx, hy, w1, w2, w3, d]
      refine post_end (.inr rfl) ?_
      simp [hgt]
    · simp [hj, prA, hx, hy, w1, w2, w3, d, hw]
      exact ⟨m, _, Weak.re (by simp), by omega, by omega⟩
  · rintro n c ⟨hn, hn2⟩
    rw [List.take_length] at hn
    simp
    refine go_up rs.length (fun j (k : Nat) => k = n + sumR (rs.take j) ∧ k ≤ 4096 ∧ ∀ i (h : i < rs.length), i < j → ¬ 300 < rs[i].vals.length) (fun j k c => ⟨[(1, .v (.int .i64 4096)), (5, .v (.int .i64 (k : Nat))), (51, .sl 4 (Rps rs)), (52, .v (.int .i64 (rs.length : Nat))), (53, .v (.int .i64 (j : Nat)))],
      [], c + 1⟩) n _ (Weak.re (by simp)) ⟨by simp [sumR], hn2, by intro i _ h; omega⟩ ?_ ?_
    · rintro j k c hj ⟨hk, hk2, hk3⟩
      have hw : IntKind.i64.wrap ((j : Int) + 1) = ((j + 1 : Nat) : Int) := w64_succ (by omega)
      have hs := sumR_take rs hj
      have hle := sumR_le rs (j + 1)
      obtain ⟨vs, hvs⟩ : ∃ vs, rs[j].vals = vs := ⟨_, rfl⟩
      have hrv := hr rs[j] (List.getElem_mem hj)
      rw [hvs] at hrv hs
      by_cases c4 : (300 : Int) < (vs.length : Nat)
      · have hgt := hyes2 ⟨rs[j], List.getElem_mem hj, by rw [hvs]; omega⟩
        simp [hj, Rep.avS, hvs, c4]
        refine post_end (.inr rfl) ?_
        simp [hgt]
      simp [hj, Rep.avS, hvs, c4]
      refine go_up vs.length (fun i (z : Nat) => z = k + sumV (vs.take i) ∧ z ≤ 4096) (fun i z c => ⟨[(1, .v (.int .i64 4096)), (5, .v (.int .i64 (z : Nat))), (51, .sl 4 (Rps rs)), (52, .v (.int .i64 (rs.length : Nat))), (53, .v (.int .i64 (j : Nat))), (62, .sl 1 (Strs vs)), (63, .v (.int .i64 (vs.length : Nat))), (64, .v (.int .i64 (i : Nat)))],
        [], c + 1⟩) k _ (Weak.re (by simp)) ⟨by simp [sumV], hk2⟩ ?_ ?_
      · rintro i z c hi ⟨hz, hz2⟩
        have hwi : IntKind.i64.wrap ((i : Int) + 1) = ((i + 1 : Nat) : Int) := w64_succ (by omega)
        have hsi := sumV_take vs hi
        have hlei := sumV_le vs (i + 1)
        have hri := hrv vs[i] (List.getElem_mem hi)
        unfold reachBytes at hri
        obtain ⟨x, hx⟩ : ∃ x, vs[i].length = x := ⟨_, rfl⟩
        rw [hx] at hsi hri
        obtain ⟨m, hm⟩ : ∃ m, m = z + 1 + x := ⟨_, rfl⟩
        have w1 : IntKind.i64.wrap ((z : Int) + 1) = (z : Int) + 1 := w64_id (by omega)
        have w2 : IntKind.i64.wrap ((z : Int) + 1 + (x : Int)) = (m : Int) := by rw [w64_id (by omega)]; omega
        by_cases d : (4096 : Int) < (m : Int)
        · have hgt := hyes (by omega)
          simp [hi, hx, w1, w2, d]
          refine post_end (.inr rfl) ?_
          simp [hgt]
        · simp [hi, hx, w1, w2, d, hwi]
          exact ⟨m, _, Weak.re (by simp), by omega, by omega⟩
      · rintro z c ⟨hz, hz2⟩
        rw [List.take_length] at hz
        simp [hw]
        refine ⟨z, _, Weak.re (by simp), by omega, hz2, ?_⟩
        intro i hi hij
        rcases (show i < j ∨ i = j by omega) with h | rfl
        · have := hk3 i hi h
          omega
        · rw [hvs]; omega
    · rintro k c ⟨hk, hk2, hk3⟩
      rw [List.take_length] at hk
      have hgf := hno (by omega) (fun a ha => by
        obtain ⟨i, hi, rfl⟩ := List.getElem_of_mem ha
        exact hk3 i hi hi)
      simp
      refine post_end (.inr rfl) ?_
      simp [hgf]
theorem great18_meets (s : Snp) (hf : s.st.Fin) : Meets Tryd.prog G fn_l18_great [s.av] [] true (.v (.bool s.st.great)) [] := by
  refine meets_of_go mix k_l18_great ⟨by simp, by simp, by simp⟩ ?_
  have m1 := great10_meets (G := G) s.st hf
  simp [Snp.av]
  refine call_intro m1 ?_ ?_
  · simp
  simp
  refine post_end (.inr rfl) ?_
  simp
theorem sumP_bytes (ps : List Pr) : (prsB ps).length ≤ 8 * sumP ps := by
  induction ps with
  | nil => simp [prsB, sumP]
  | cons p ps ih =>
    have e : prsB (p :: ps) = prB p ++ prsB ps := by simp [prsB]
    have e2 : sumP (p :: ps) = 1 + p.key.length + p.val.length + sumP ps := by simp [sumP]
    have := txt_le p.key
    have := txt_le p.val
    rw [e, e2, List.length_append, prB, List.length_append]
    omega
theorem sumV_bytes (vs : List Bytes) : (txts vs).length ≤ 4 * sumV vs := by
  induction vs with
  | nil => simp [txts, sumV]
  | cons v vs ih =>
    have e : txts (v :: vs) = txt v ++ txts vs := by simp [txts]
    have e2 : sumV (v :: vs) = 1 + v.length + sumV vs := by simp [sumV]
    have := txt_le v
    rw [e, e2, List.length_append]
    omega
theorem sumR_bytes (rs : List Rep) : (rpsB rs).length ≤ 32 * rs.length + 4 * sumR rs := by
  induction rs with
  | nil => simp [rpsB, sumR]
  | cons a rs ih =>
    have e : rpsB (a :: rs) = a.bytes ++ rpsB rs := by simp [rpsB]
    have e2 : sumR (a :: rs) = sumV a.vals + sumR rs := by simp [sumR]
    have e3 : a.bytes.length = 32 + (txts a.vals).length := by simp [Rep.bytes, nums_length]
    have := sumV_bytes a.vals
    rw [e, e2, List.length_append, List.length_cons, e3]
    omega
theorem great_no {s : Sta} (h : s.great = false) : s.Sm ∧ s.bytes.length ≤ 50000 ∧ ∀ p ∈ s.pairs, p.key.length < 4294967296 ∧ p.val.length < 4294967296 := by
  simp only [Sta.great, Bool.or_eq_false_iff, decide_eq_false_iff_not] at h
  obtain ⟨⟨⟨⟨h1, h2⟩, h3⟩, h4⟩, h5⟩ := h
  have hl := s.bytes_len
  have hc : s.conf.bytes.length = 16 + 48 * s.conf.ms.length := by simp [Conf.bytes, nums_length, memsB_len]
  have b1 := sumP_bytes s.pairs
  have b2 := sumR_bytes s.reps
  have hb : s.bytes.length ≤ 50000 := by omega
  refine ⟨⟨by omega, by omega, by omega, fun a ha => ?_, by omega⟩, hb, fun p hp => ?_⟩
  · have := List.any_eq_false.1 h4 a ha
    simp only [decide_eq_true_eq] at this
    omega
  · obtain ⟨j, hj, rfl⟩ := List.getElem_of_mem hp
    have := sumP_take s.pairs hj
    have := sumP_le s.pairs (j + 1)
    omega
end Go.Proofs.YtbmdaaehogpeeaaDoor.WL

end
section
/-
  CHAPTERS 10, 18: the same is the same.
-/
namespace Go.Proofs.YtbmdaaehogpeeaaDoor.WL
open Go
set_option maxHeartbeats 8000000
variable {G : Nat → Option AV}

theorem cmp_pr (p : Pr) : cmpA (.st [.str, .str]) (prA p) (prA p) = some true := by simp [prA, cmpA, cmpL]
theorem ssame_refl (s : Sta) (h1 : s.pairs.length ≤ 1000000) (h2 : s.reps.length ≤ 1000000) (h3 : s.conf.ms.length ≤ 1000) (h4 : ∀ a ∈ s.reps, a.vals.length ≤ 1000000) : Meets Tryd.prog G fn_r10_Same [s.av, s.av] [] true (.v (.bool true)) [] := by
  refine meets_of_go mix k_r10_Same ⟨by simp, by simp, by simp⟩ ?_
  have m1 := csame_refl (G := G) s.conf h3
  have hav : s.av = .node [.sl 2 (Prs s.pairs), .sl 4 (Rps s.reps), s.conf.av] := rfl
  rw [hav]
  generalize s.pairs = ps at *
  generalize s.reps = rs at *
  generalize s.conf = C at *
  clear hav
  simp
  refine call_intro m1 ?_ ?_
  · simp
  simp
  refine go_up ps.length (fun j (_ : Unit) => True) (fun j _ c => ⟨[(2, .ptr 2 c 0), (3, .ptr 3 c 0), (33, .v (.int .i64 (ps.length : Nat))), (34, .v (.int .i64 (j : Nat)))],
    [(2, .var c (.node [.sl 2 (Prs ps), .sl 4 (Rps rs), C.av])), (3, .var c (.node [.sl 2 (Prs ps), .sl 4 (Rps rs), C.av]))], c + 1⟩) () _ (Weak.re (by simp)) trivial ?_ ?_
  · intro j _ c hj _
    have hw : IntKind.i64.wrap ((j : Int) + 1) = ((j + 1 : Nat) : Int) := w64_succ (by omega)
    simp [hj, cmp_pr, hw]
    exact ⟨(), _, Weak.re (by simp), trivial⟩
  · intro _ c _
    simp
    refine go_up rs.length (fun j (_ : Unit) => True) (fun j _ c => ⟨[(2, .ptr 2 c 0), (3, .ptr 3 c 0), (51, .v (.int .i64 (rs.length : Nat))), (52, .v (.int .i64 (j : Nat)))],
      [(2, .var c (.node [.sl 2 (Prs ps), .sl 4 (Rps rs), C.av])), (3, .var c (.node [.sl 2 (Prs ps), .sl 4 (Rps rs), C.av]))], c + 1⟩) () _ (Weak.re (by simp)) trivial ?_ ?_
    · intro j _ c hj _
      have hw : IntKind.i64.wrap ((j : Int) + 1) = ((j + 1 : Nat) : Int) := w64_succ (by omega)
      have m2 := rqsame_meets (G := G) rs[j] rs[j] (by have := h4 rs[j] (List.getElem_mem hj); omega)
      have e : (rs[j]).same rs[j] = true := by simp [Rep.same]
      rw [e] at m2
      simp [hj]
      refine call_intro m2 ?_ ?_
      · simp
      simp [hw]
      exact ⟨(), _, Weak.re (by simp), trivial⟩
    · intro _ c _
      simp
      refine post_end (.inr rfl) ?_
      simp
theorem snsame_refl (s : Snp) (h1 : s.st.pairs.length ≤ 1000000) (h2 : s.st.reps.length ≤ 1000000) (h3 : s.st.conf.ms.length ≤ 1000) (h4 : ∀ a ∈ s.st.reps, a.vals.length ≤ 1000000) : Meets Tryd.prog G fn_r18_Same [s.av, s.av] [] true (.v (.bool true)) [] := by
  refine meets_of_go mix k_r18_Same ⟨by simp, by simp, by simp⟩ ?_
  have m1 := ssame_refl (G := G) s.st h1 h2 h3 h4
  simp [Snp.av, dv]
  refine call_intro m1 ?_ ?_
  · simp
  simp
  refine post_end (.inr rfl) ?_
  simp
end Go.Proofs.YtbmdaaehogpeeaaDoor.WL

end
section
/-
  CHAPTER 16: files in a map, as memory.
-/
namespace Go.Proofs.YtbmdaaehogpeeaaDoor.WL
open Go
set_option maxHeartbeats 8000000
variable {G : Nat → Option AV}

/-- A file: its name, its bytes that are safe, such that wait. -/
structure Fl where
  name : Bytes
  safe : Bytes
  waits : Bytes
structure Dk where
  fs : List Fl
  down : Bool
  acts : Int
  fuse : Int
  keep : Int
def dkEnts (nw : List Nat) : Nat → List Fl → List AV
  | _, [] => []
  | i, f :: fs => entA (.v (.string (mkS f.name))) (.ptr (1010 + i) (if i ∈ nw then 1 else 0) 0) (i : Nat) :: dkEnts nw (i + 1) fs
def dkVars (g : Nat) (nw : List Nat) : Nat → List Fl → List (Nat × Loc)
  | _, [] => []
  | i, f :: fs => (1010 + i, .var (if i ∈ nw then 1 else 0) (.node [.row (2010 + i) 1 g 0 f.safe.length, .row (2110 + i) 1 g 0 f.waits.length])) :: dkVars g nw (i + 1) fs
def dkSafe (g : Nat) : Nat → List Fl → List (Nat × Loc)
  | _, [] => []
  | i, f :: fs => (2010 + i, .rows g 1 (B f.safe)) :: dkSafe g (i + 1) fs
def dkWaits (g : Nat) : Nat → List Fl → List (Nat × Loc)
  | _, [] => []
  | i, f :: fs => (2110 + i, .rows g 1 (B f.waits)) :: dkWaits g (i + 1) fs
@[simp] theorem dkEnts_nil (nw : List Nat) (i : Nat) : dkEnts nw i [] = [] := (rfl)
@[simp] theorem dkEnts_cons (nw : List Nat) (i : Nat) (f : Fl) (fs : List Fl) : dkEnts nw i (f :: fs) = entA (.v (.string (mkS f.name))) (.ptr (1010 + i) (if i ∈ nw then 1 else 0) 0) (i : Nat) :: dkEnts nw (i + 1) fs := (rfl)
@[simp] theorem dkVars_nil (g : Nat) (nw : List Nat) (i : Nat) : dkVars g nw i [] = [] := (rfl)
@[simp] theorem dkVars_cons (g : Nat) (nw : List Nat) (i : Nat) (f : Fl) (fs : List Fl) : dkVars g nw i (f :: fs) = (1010 + i, .var (if i ∈ nw then 1 else 0) (.node [.row (2010 + i) 1 g 0 f.safe.length, .row (2110 + i) 1 g 0 f.waits.length])) :: dkVars g nw (i + 1) fs := (rfl)
@[simp] theorem dkSafe_nil (g i : Nat) : dkSafe g i [] = [] := (rfl)
@[simp] theorem dkSafe_cons (g i : Nat) (f : Fl) (fs : List Fl) : dkSafe g i (f :: fs) = (2010 + i, .rows g 1 (B f.safe)) :: dkSafe g (i + 1) fs := (rfl)
@[simp] theorem dkWaits_nil (g i : Nat) : dkWaits g i [] = [] := (rfl)
@[simp] theorem dkWaits_cons (g i : Nat) (f : Fl) (fs : List Fl) : dkWaits g i (f :: fs) = (2110 + i, .rows g 1 (B f.waits)) :: dkWaits g (i + 1) fs := (rfl)
/-- A disk's memory: its rows' stamp; which of its files are new. -/
def dkM (g : Nat) (nw : List Nat) (d : Dk) : List (Nat × Loc) :=
  (1000, .var 0 (.node [.oref 1001 0 true, .v (.bool d.down), .v (.int .i64 d.acts), .v (.int .i64 d.fuse), .v (.int .i64 d.keep)])) ::
  (1001, .ob 0 (.map false 1 false 1) (.node [.node (dkEnts nw 0 d.fs), .v (.int .i64 (d.fs.length : Nat))])) :: (dkVars g nw 0 d.fs ++ (dkSafe g 0 d.fs ++ dkWaits g 0 d.fs))
@[simp] theorem cmpA_text (a b : Bytes) : cmpA .str (.v (.string (mkS a))) (.v (.string (mkS b))) = some (a == b) := by simp [cmpA]

theorem new_meets : Meets Tryd.prog G fn_disk_New [] [] true (.ptr 1000 1 0) [(1000, .var 1 (.node [.oref 1001 1 true, .v (.bool false), .v (.int .i64 0), .v (.int .i64 0), .v (.int .i64 0)])), (1001, .ob 1 (.map false 1 false 1) (.node [.node [], .v (.int .i64 0)]))] := by
  refine meets_of_go mix k_disk_New ⟨by simp, by simp, by simp⟩ ?_
  simp
  refine post_end (.inr rfl) ?_
  simp
end Go.Proofs.YtbmdaaehogpeeaaDoor.WL

end
section
/-
  CHAPTER 16: contracts of the disk's functions, for each number of files (printed by gd.py).
-/
namespace Go.Proofs.YtbmdaaehogpeeaaDoor.WL
open Go
set_option maxHeartbeats 8000000
variable {G : Nat → Option AV}
def Fl.size (f : Fl) : Nat := f.safe.length + f.waits.length
def szs (fs : List Fl) : Int → Nat := fun i => match fs[i.toNat]? with | some f => f.size | none => 0
theorem wadd3 {a b c : Nat} (h : a + (b + c) ≤ 1000000000) : IntKind.i64.wrap ((a : Int) + IntKind.i64.wrap ((b : Int) + (c : Int))) = ((a + (b + c) : Nat) : Int) := by rw [w64_add (by omega), w64_add (by omega)]
/-- The fuse behind an act. -/
def fz (c : Int) : Int := if 0 < c then c - 1 else c
theorem size_meets0 (dn : Bool) (a c kp : Int) : Meets Tryd.prog G fn_disk_Disk_size [.ptr 1000 0 0] (dkM 0 [] ⟨[], dn, a, c, kp⟩) true (.v (.int .i64 (0 : Nat))) (dkM 1 [] ⟨[], dn, a, c, kp⟩) := by
  refine meets_of_go mix k_disk_Disk_size ⟨by simp [dkM], by simp [dkM], by simp [dkM]⟩ ?_
  obtain ⟨s, hs⟩ : ∃ s, szs [] = s := ⟨_, rfl⟩
  have htot : sumAt s [] = 0 := by simp [sumAt]
  simp [dkM]
  refine go_wh (fun (vis : List Int) => 0 - vis.length) (fun vis => Vis [] vis) (fun vis q => ⟨[(3, .v (.int .i64 (sumAt s vis : Nat))), (10, .oref 10 q false)],
    (10, .ob q .iter (.node [.oref 1001 0 true, .v (.int .i64 0), .v (.int .i64 0), .node (stampsA vis)])) :: dkM 0 [] ⟨[], dn, a, c, kp⟩, q + 1⟩) [] _ (Weak.re1 1000 (by simp [dkM, sumAt, stampsA])) (Vis.nil _) ?_
  rintro vis q hv
  simp [dkM]
  refine go_next rfl rfl rfl (by simp) (by simp) (by simp) ?_ ?_
  · intro hall
    have hp := hv.all (by decide) (by simp)
    have hs : sumAt s vis = 0 := by rw [sumAt_perm _ hp, htot]
    simp [hs]
    refine post_end (.inr rfl) ?_
    simp
  · intro e i he hi hni
    simp at he
theorem act_ok0 (a c kp : Int) (ha : 0 ≤ a ∧ a ≤ 1000000) (hc : c ≠ 1 ∧ c ≤ 9223372036854775807) : Meets Tryd.prog G fn_disk_Disk_act [.ptr 1000 0 0] (dkM 0 [] ⟨[], false, a, c, kp⟩) true (.v (.int .i64 0)) (dkM 1 [] ⟨[], false, (a + 1), (fz c), kp⟩) := by
  refine meets_of_go mix k_disk_Disk_act ⟨by simp [dkM], by simp [dkM], by simp [dkM]⟩ ?_
  have hw : IntKind.i64.wrap (a + 1) = a + 1 := w64_id (by omega)
  unfold fz
  by_cases h : 0 < c
  · have hw2 : IntKind.i64.wrap (c - 1) = c - 1 := w64_id (by omega)
    have hne : ¬ c - 1 = 0 := by omega
    simp [dkM, h, hw, hw2, hne]
    refine post_end (.inr rfl) ?_
    simp
  · simp [dkM, h, hw]
    refine post_end (.inr rfl) ?_
    simp
theorem size_meets1 (f0 : Fl) (dn : Bool) (a c kp : Int) (hf : f0.size ≤ 100000000) : Meets Tryd.prog G fn_disk_Disk_size [.ptr 1000 0 0] (dkM 0 [] ⟨[f0], dn, a, c, kp⟩) true (.v (.int .i64 (f0.size : Nat))) (dkM 1 [] ⟨[f0], dn, a, c, kp⟩) := by
  refine meets_of_go mix k_disk_Disk_size ⟨by simp [dkM], by simp [dkM], by simp [dkM]⟩ ?_
  obtain ⟨s, hs⟩ : ∃ s, szs [f0] = s := ⟨_, rfl⟩
  have e0 : s 0 = f0.safe.length + f0.waits.length := by rw [← hs]; rfl
  have htot : sumAt s [0] = f0.size := by simp [sumAt, e0, Fl.size]
  simp [dkM]
  refine go_wh (fun (vis : List Int) => 1 - vis.length) (fun vis => Vis [0] vis) (fun vis q => ⟨[(3, .v (.int .i64 (sumAt s vis : Nat))), (10, .oref 10 q false)],
    (10, .ob q .iter (.node [.oref 1001 0 true, .v (.int .i64 1), .v (.int .i64 1), .node (stampsA vis)])) :: dkM 0 [] ⟨[f0], dn, a, c, kp⟩, q + 1⟩) [] _ (Weak.re1 1000 (by simp [dkM, sumAt, stampsA])) (Vis.nil _) ?_
  rintro vis q hv
  simp [dkM]
  refine go_next rfl rfl rfl (by simp) (by simp) (by simp) ?_ ?_
  · intro hall
    have hp := hv.all (by decide) (by simpa using hall)
    have hs : sumAt s vis = f0.size := by rw [sumAt_perm _ hp, htot]
    simp [hs]
    refine post_end (.inr rfl) ?_
    simp
  · intro e i he hi hni
    simp at he
    subst he
    · simp at hi
      subst hi
      have hv2 := hv.snoc (by simp) hni
      have hle := hv2.sum s
      rw [sumAt_snoc, htot, e0] at hle
      have hlen : vis.length < 1 := hv.lt (by simp) hni
      have hw := wadd3 (a := sumAt s vis) (b := f0.safe.length) (c := f0.waits.length) (by omega)
      simp
      refine go_entry (entA (.v (.string (mkS f0.name))) (.ptr 1010 0 0) 0) rfl rfl rfl (by simp) (by simp) (by simp) rfl rfl rfl rfl ?_
      simp [hw]
      exact ⟨vis ++ [0], _, Weak.re1 1000 (by simp [dkM, sumAt_snoc, e0]), hv2, by dsimp only; rw [List.length_append, List.length_singleton]; omega⟩
theorem act_ok1 (f0 : Fl) (a c kp : Int) (ha : 0 ≤ a ∧ a ≤ 1000000) (hc : c ≠ 1 ∧ c ≤ 9223372036854775807) : Meets Tryd.prog G fn_disk_Disk_act [.ptr 1000 0 0] (dkM 0 [] ⟨[f0], false, a, c, kp⟩) true (.v (.int .i64 0)) (dkM 1 [] ⟨[f0], false, (a + 1), (fz c), kp⟩) := by
  refine meets_of_go mix k_disk_Disk_act ⟨by simp [dkM], by simp [dkM], by simp [dkM]⟩ ?_
  have hw : IntKind.i64.wrap (a + 1) = a + 1 := w64_id (by omega)
  unfold fz
  by_cases h : 0 < c
  · have hw2 : IntKind.i64.wrap (c - 1) = c - 1 := w64_id (by omega)
    have hne : ¬ c - 1 = 0 := by omega
    simp [dkM, h, hw, hw2, hne]
    refine post_end (.inr rfl) ?_
    simp
  · simp [dkM, h, hw]
    refine post_end (.inr rfl) ?_
    simp
theorem size_meets2 (f0 f1 : Fl) (dn : Bool) (a c kp : Int) (hf : f0.size + f1.size ≤ 100000000) : Meets Tryd.prog G fn_disk_Disk_size [.ptr 1000 0 0] (dkM 0 [] ⟨[f0, f1], dn, a, c, kp⟩) true (.v (.int .i64 (f0.size + f1.size : Nat))) (dkM 1 [] ⟨[f0, f1], dn, a, c, kp⟩) := by
  refine meets_of_go mix k_disk_Disk_size ⟨by simp [dkM], by simp [dkM], by simp [dkM]⟩ ?_
  obtain ⟨s, hs⟩ : ∃ s, szs [f0, f1] = s := ⟨_, rfl⟩
  have e0 : s 0 = f0.safe.length + f0.waits.length := by rw [← hs]; rfl
  have e1 : s 1 = f1.safe.length + f1.waits.length := by rw [← hs]; rfl
  have htot : sumAt s [0, 1] = f0.size + f1.size := by simp [sumAt, e0, e1, Fl.size]
  simp [dkM]
  refine go_wh (fun (vis : List Int) => 2 - vis.length) (fun vis => Vis [0, 1] vis) (fun vis q => ⟨[(3, .v (.int .i64 (sumAt s vis : Nat))), (10, .oref 10 q false)],
    (10, .ob q .iter (.node [.oref 1001 0 true, .v (.int .i64 2), .v (.int .i64 2), .node (stampsA vis)])) :: dkM 0 [] ⟨[f0, f1], dn, a, c, kp⟩, q + 1⟩) [] _ (Weak.re1 1000 (by simp [dkM, sumAt, stampsA])) (Vis.nil _) ?_
  rintro vis q hv
  simp [dkM]
  refine go_next rfl rfl rfl (by simp) (by simp) (by simp) ?_ ?_
  · intro hall
    have hp := hv.all (by decide) (by simpa using hall)
    have hs : sumAt s vis = f0.size + f1.size := by rw [sumAt_perm _ hp, htot]
    simp [hs]
    refine post_end (.inr rfl) ?_
    simp
  · intro e i he hi hni
    simp at he
    rcases he with rfl | rfl
    · simp at hi
      subst hi
      have hv2 := hv.snoc (by simp) hni
      have hle := hv2.sum s
      rw [sumAt_snoc, htot, e0] at hle
      have hlen : vis.length < 2 := hv.lt (by simp) hni
      have hw := wadd3 (a := sumAt s vis) (b := f0.safe.length) (c := f0.waits.length) (by omega)
      simp
      refine go_entry (entA (.v (.string (mkS f0.name))) (.ptr 1010 0 0) 0) rfl rfl rfl (by simp) (by simp) (by simp) rfl rfl rfl rfl ?_
      simp [hw]
      exact ⟨vis ++ [0], _, Weak.re1 1000 (by simp [dkM, sumAt_snoc, e0]), hv2, by dsimp only; rw [List.length_append, List.length_singleton]; omega⟩
    · simp at hi
      subst hi
      have hv2 := hv.snoc (by simp) hni
      have hle := hv2.sum s
      rw [sumAt_snoc, htot, e1] at hle
      have hlen : vis.length < 2 := hv.lt (by simp) hni
      have hw := wadd3 (a := sumAt s vis) (b := f1.safe.length) (c := f1.waits.length) (by omega)
      simp
      refine go_entry (entA (.v (.string (mkS f1.name))) (.ptr 1011 0 0) 1) rfl rfl rfl (by simp) (by simp) (by simp) rfl rfl rfl rfl ?_
      simp [hw]
      exact ⟨vis ++ [1], _, Weak.re1 1000 (by simp [dkM, sumAt_snoc, e1]), hv2, by dsimp only; rw [List.length_append, List.length_singleton]; omega⟩
theorem act_ok2 (f0 f1 : Fl) (a c kp : Int) (ha : 0 ≤ a ∧ a ≤ 1000000) (hc : c ≠ 1 ∧ c ≤ 9223372036854775807) : Meets Tryd.prog G fn_disk_Disk_act [.ptr 1000 0 0] (dkM 0 [] ⟨[f0, f1], false, a, c, kp⟩) true (.v (.int .i64 0)) (dkM 1 [] ⟨[f0, f1], false, (a + 1), (fz c), kp⟩) := by
  refine meets_of_go mix k_disk_Disk_act ⟨by simp [dkM], by simp [dkM], by simp [dkM]⟩ ?_
  have hw : IntKind.i64.wrap (a + 1) = a + 1 := w64_id (by omega)
  unfold fz
  by_cases h : 0 < c
  · have hw2 : IntKind.i64.wrap (c - 1) = c - 1 := w64_id (by omega)
    have hne : ¬ c - 1 = 0 := by omega
    simp [dkM, h, hw, hw2, hne]
    refine post_end (.inr rfl) ?_
    simp
  · simp [dkM, h, hw]
    refine post_end (.inr rfl) ?_
    simp
end Go.Proofs.YtbmdaaehogpeeaaDoor.WL

end
section
/-
  CHAPTER 16: contracts of the disk's functions, for each number of files (printed by gd.py).
-/
namespace Go.Proofs.YtbmdaaehogpeeaaDoor.WL
open Go
set_option maxHeartbeats 8000000
variable {G : Nat → Option AV}
theorem ins_ok0_0 (n : Bytes) (b : Bytes)  (a c kp : Int) (ha : 0 ≤ a ∧ a ≤ 1000000) (hc : c ≠ 1 ∧ c ≤ 9223372036854775807) (hs : 0 + b.length ≤ 4194304) : Meets Tryd.prog G fn_disk_Disk_Install [.ptr 1000 0 0, .v (.string (mkS n)), .sl 1 (B b)] (dkM 0 [] ⟨[], false, a, c, kp⟩) true (.v (.int .i64 0)) (dkM 1 [0] ⟨[⟨n, b, []⟩], false, (a + 1), (fz c), kp⟩) := by
  refine meets_of_go mix k_disk_Disk_Install ⟨by simp [dkM], by simp [dkM], by simp [dkM]⟩ ?_
  have m1 := size_meets0 (G := G)  false a c kp
  have m2 := act_ok0 (G := G)  a c kp ha hc
  have hft : fitsB b.length 1 := fits (by omega) (by omega)
  have hw : IntKind.i64.wrap (b.length : Nat) = (b.length : Nat) := w64_id (by omega)
  have hle : ¬ (4194304 : Int) < (b.length : Nat) := by omega
  simp [dkM]
  refine call_intro m1 ?_ ?_
  · simp [dkM]
  simp [dkM, hw, hle]
  refine call_intro m2 ?_ ?_
  · simp [dkM]
  simp [dkM, hft]
  refine post_end (.inr rfl) ?_
  simp [dkM]
theorem read_none0 (n : Bytes)  (a c kp : Int) : Meets Tryd.prog G fn_disk_Disk_Read [.ptr 1000 0 0, .v (.string (mkS n))] (dkM 0 [] ⟨[], false, a, c, kp⟩) true (.tup [.v (.slice none 0 0), .v (.int .i64 7)]) (dkM 1 [] ⟨[], false, a, c, kp⟩) := by
  refine meets_of_go mix k_disk_Disk_Read ⟨by simp [dkM], by simp [dkM], by simp [dkM]⟩ ?_
  simp [dkM]
  refine post_end (.inr rfl) ?_
  simp [dkM]
end Go.Proofs.YtbmdaaehogpeeaaDoor.WL

end
section
/-
  CHAPTER 16: contracts of the disk's functions, for each number of files (printed by gd.py).
-/
namespace Go.Proofs.YtbmdaaehogpeeaaDoor.WL
open Go
set_option maxHeartbeats 8000000
variable {G : Nat → Option AV}
theorem read_ok1_0 (f0 : Fl)  (a c kp : Int) (hs : f0.size ≤ 100000000) : Meets Tryd.prog G fn_disk_Disk_Read [.ptr 1000 0 0, .v (.string (mkS f0.name))] (dkM 0 [] ⟨[f0], false, a, c, kp⟩) true (.tup [.row 3000 1 1 0 (f0.safe.length + f0.waits.length), .v (.int .i64 0)]) (dkM 1 [] ⟨[f0], false, a, c, kp⟩ ++ [(3000, .rows 1 1 (B (f0.safe ++ f0.waits)))]) := by
  refine meets_of_go mix k_disk_Disk_Read ⟨by simp [dkM], by simp [dkM], by simp [dkM]⟩ ?_
  unfold Fl.size at hs
  have hft : fitsB f0.safe.length 1 ∧ fitsB (f0.safe.length + f0.waits.length) 1 := ⟨fits (by omega) (by omega), fits (by omega) (by omega)⟩
  simp [dkM, hft]
  refine post_end (.inr rfl) ?_
  simp [dkM]
theorem ins_ok1_1 (f0 : Fl) (n : Bytes) (b : Bytes) (h0 : n ≠ f0.name) (a c kp : Int) (ha : 0 ≤ a ∧ a ≤ 1000000) (hc : c ≠ 1 ∧ c ≤ 9223372036854775807) (hs : f0.size + b.length ≤ 4194304) : Meets Tryd.prog G fn_disk_Disk_Install [.ptr 1000 0 0, .v (.string (mkS n)), .sl 1 (B b)] (dkM 0 [] ⟨[f0], false, a, c, kp⟩) true (.v (.int .i64 0)) (dkM 1 [1] ⟨[f0, ⟨n, b, []⟩], false, (a + 1), (fz c), kp⟩) := by
  refine meets_of_go mix k_disk_Disk_Install ⟨by simp [dkM], by simp [dkM], by simp [dkM]⟩ ?_
  have m1 := size_meets1 (G := G) f0 false a c kp (by omega)
  have m2 := act_ok1 (G := G) f0 a c kp ha hc
  have hft : fitsB b.length 1 := fits (by omega) (by omega)
  obtain ⟨s, hsz⟩ : ∃ s, f0.size = s := ⟨_, rfl⟩
  rw [hsz] at m1 hs
  have hw : IntKind.i64.wrap ((s : Int) + (b.length : Nat)) = (s : Int) + (b.length : Nat) := w64_id (by omega)
  have hle : ¬ (4194304 : Int) < (s : Int) + (b.length : Nat) := by omega
  simp [dkM]
  refine call_intro m1 ?_ ?_
  · simp [dkM]
  simp [dkM, hw, hle]
  refine call_intro m2 ?_ ?_
  · simp [dkM]
  simp [dkM, hft, h0]
  refine post_end (.inr rfl) ?_
  simp [dkM]
end Go.Proofs.YtbmdaaehogpeeaaDoor.WL

end
section
/-
  CHAPTER 16: contracts of the disk's functions, for each number of files (printed by gd.py).
-/
namespace Go.Proofs.YtbmdaaehogpeeaaDoor.WL
open Go
set_option maxHeartbeats 8000000
variable {G : Nat → Option AV}
theorem ins_ok2_0 (f0 f1 : Fl) (b : Bytes)  (a c kp : Int) (ha : 0 ≤ a ∧ a ≤ 1000000) (hc : c ≠ 1 ∧ c ≤ 9223372036854775807) (hs : f0.size + f1.size + b.length ≤ 4194304) : Meets Tryd.prog G fn_disk_Disk_Install [.ptr 1000 0 0, .v (.string (mkS f0.name)), .sl 1 (B b)] (dkM 0 [] ⟨[f0, f1], false, a, c, kp⟩) true (.v (.int .i64 0)) (dkM 1 [0] ⟨[⟨f0.name, b, []⟩, f1], false, (a + 1), (fz c), kp⟩) := by
  refine meets_of_go mix k_disk_Disk_Install ⟨by simp [dkM], by simp [dkM], by simp [dkM]⟩ ?_
  have m1 := size_meets2 (G := G) f0 f1 false a c kp (by omega)
  have m2 := act_ok2 (G := G) f0 f1 a c kp ha hc
  have hft : fitsB b.length 1 := fits (by omega) (by omega)
  obtain ⟨s, hsz⟩ : ∃ s, f0.size + f1.size = s := ⟨_, rfl⟩
  rw [hsz] at m1 hs
  have hw : IntKind.i64.wrap ((s : Int) + (b.length : Nat)) = (s : Int) + (b.length : Nat) := w64_id (by omega)
  have hle : ¬ (4194304 : Int) < (s : Int) + (b.length : Nat) := by omega
  simp [dkM]
  refine call_intro m1 ?_ ?_
  · simp [dkM]
  simp [dkM, hw, hle]
  refine call_intro m2 ?_ ?_
  · simp [dkM]
  simp [dkM, hft]
  refine post_end (.inr rfl) ?_
  simp [dkM]
theorem read_ok2_0 (f0 f1 : Fl)  (a c kp : Int) (hs : f0.size ≤ 100000000) : Meets Tryd.prog G fn_disk_Disk_Read [.ptr 1000 0 0, .v (.string (mkS f0.name))] (dkM 0 [] ⟨[f0, f1], false, a, c, kp⟩) true (.tup [.row 3000 1 1 0 (f0.safe.length + f0.waits.length), .v (.int .i64 0)]) (dkM 1 [] ⟨[f0, f1], false, a, c, kp⟩ ++ [(3000, .rows 1 1 (B (f0.safe ++ f0.waits)))]) := by
  refine meets_of_go mix k_disk_Disk_Read ⟨by simp [dkM], by simp [dkM], by simp [dkM]⟩ ?_
  unfold Fl.size at hs
  have hft : fitsB f0.safe.length 1 ∧ fitsB (f0.safe.length + f0.waits.length) 1 := ⟨fits (by omega) (by omega), fits (by omega) (by omega)⟩
  simp [dkM, hft]
  refine post_end (.inr rfl) ?_
  simp [dkM]
theorem read_ok2_1 (f0 f1 : Fl) (h0 : f1.name ≠ f0.name) (a c kp : Int) (hs : f1.size ≤ 100000000) : Meets Tryd.prog G fn_disk_Disk_Read [.ptr 1000 0 0, .v (.string (mkS f1.name))] (dkM 0 [] ⟨[f0, f1], false, a, c, kp⟩) true (.tup [.row 3000 1 1 0 (f1.safe.length + f1.waits.length), .v (.int .i64 0)]) (dkM 1 [] ⟨[f0, f1], false, a, c, kp⟩ ++ [(3000, .rows 1 1 (B (f1.safe ++ f1.waits)))]) := by
  refine meets_of_go mix k_disk_Disk_Read ⟨by simp [dkM], by simp [dkM], by simp [dkM]⟩ ?_
  unfold Fl.size at hs
  have hft : fitsB f1.safe.length 1 ∧ fitsB (f1.safe.length + f1.waits.length) 1 := ⟨fits (by omega) (by omega), fits (by omega) (by omega)⟩
  simp [dkM, hft, h0]
  refine post_end (.inr rfl) ?_
  simp [dkM]
end Go.Proofs.YtbmdaaehogpeeaaDoor.WL

end
