/- Texts put together: S09b, S12b, L09a, L09b, S12c, S12d, S13a, S13b, S14a, S05d, S02a, S02b. -/
import Derived.Test.YtbmdaaehogpeeaaDoorWm7
section
/-
  CHAPTER 09: contracts of replies; the reference.
-/
namespace Go.Proofs.YtbmdaaehogpeeaaDoor.WL
open Go
set_option maxHeartbeats 4000000
variable {G : Nat → Option AV}

theorem qwrep_meets (bs : Bytes) (a : Rep) (h : bs.length + a.bytes.length ≤ 60000000) (hn : a.vals.length ≤ 1000000) : Meets Tryd.prog G fn_request_WriteReply [.ptr 1000 0 0, a.avS] (wrM 0 bs) true (.tup []) (wrM 1 (bs ++ a.bytes)) := by
  refine meets_of_go mix k_request_WriteReply ⟨by simp [wrM], by simp, by simp [wrM]⟩ ?_
  have hb : a.bytes = nums [a.client, a.num, a.code, (a.vals.length : Int)] ++ txts a.vals := rfl
  rw [hb] at h ⊢
  rw [List.length_append] at h
  have n1 := nums_length [a.client, a.num, a.code, (a.vals.length : Int)]
  have m1 := wnum_meets (G := G) bs [a.client, a.num, a.code, (a.vals.length : Int)] (by simp; omega)
  generalize nums [a.client, a.num, a.code, (a.vals.length : Int)] = x1 at *
  have m2 := wtext_meets (G := G) (bs ++ x1) a.vals (by rw [List.length_append]; omega) (by omega)
  generalize txts a.vals = x2 at *
  rw [← List.append_assoc]
  generalize bs ++ x1 ++ x2 = y2 at *
  generalize bs ++ x1 = y1 at *
  simp [Rep.avS, wrM]
  refine call_intro m1 ?_ ?_
  · simp [wrM, I64_4]
  simp [wrM, I64_4]
  refine call_intro m2 ?_ ?_
  · simp [wrM]
  simp [wrM]
  refine post_end (.inl rfl) ?_
  simp

theorem qrrep_meets (r : Rd) : Meets Tryd.prog G fn_request_ReadReply [.ptr 1000 0 0] (rdM 0 r) true (r.rep.avR 3000 1) (rdM 1 r.rep' ++ [(3000, .rows 1 1 (Strs r.rep.vals))]) := by
  refine meets_of_go mix k_request_ReadReply ⟨by simp [rdM], by simp [rdM, Rep.avR], by simp [rdM]⟩ ?_
  obtain ⟨hN, hN2⟩ := r.repN_eq
  have hrep : r.rep = if (r.p4.tx' r.repN).bad = true then Rep.zero else ⟨r.inn 1 64, r.p1.inn 1 1099511627776, r.p2.inn 0 1024, r.p4.tx r.repN⟩ := rfl
  have hrep' : r.rep' = r.p4.tx' r.repN := rfl
  rw [hrep, hrep']
  generalize r.repN = N at *
  unfold Rd.p4 Rd.p3 Rd.p2 Rd.p1 at *
  have m1 := in_meets (G := G) r 1 64
  generalize r.inn' 1 64 = r1 at *
  have m2 := in_meets (G := G) r1 1 1099511627776
  generalize r1.inn' 1 1099511627776 = r2 at *
  have m3 := in_meets (G := G) r2 0 1024
  generalize r2.inn' 0 1024 = r3 at *
  have m4 := in_meets (G := G) r3 0 256
  rw [← hN] at m4
  generalize r3.inn' 0 256 = r4 at *
  generalize r.inn 1 64 = a1 at *
  generalize r1.inn 1 1099511627776 = a2 at *
  generalize r2.inn 0 1024 = a3 at *
  simp [rdM]
  refine call_intro m1 ?_ ?_
  · simp [rdM]
  simp [rdM]
  refine call_intro m2 ?_ ?_
  · simp [rdM]
  simp [rdM]
  refine call_intro m3 ?_ ?_
  · simp [rdM]
  simp [rdM]
  refine call_intro m4 ?_ ?_
  · simp [rdM]
  simp [rdM]
  refine go_up N (fun j (_ : Unit) => True) (fun j _ c => ⟨[(0, .ptr 1000 0 0), (2, .ptr 2 c 0), (3, .ptr 3 c 0), (12, .v (.int .i64 (N : Nat))), (13, .v (.int .i64 (j : Nat)))],
    [(2, .var c (.node [.v (.int .i64 0), .v (.int .i64 0), .v (.int .i64 0), .v (.slice none 0 0)])), (3, .var c (.node [.v (.int .i64 a1), .v (.int .i64 a2), .v (.int .i64 a3), .row 20 1 c 0 j])), (20, .rows c 1 (Strs (r4.tx j))),
     (1000, .var 0 (.node [.row 2000 1 c (r4.tx' j).pre.length (r4.tx' j).s.length, .v (.bool (r4.tx' j).bad)])), (2000, .rows c 1 (B ((r4.tx' j).pre ++ (r4.tx' j).s)))], c + 1⟩) () _ (Weak.re0 1000 (by simp [Rd.tx, Rd.tx'])) trivial ?_ ?_
  · intro j _ c hj _
    have hw : IntKind.i64.wrap ((j : Int) + 1) = ((j + 1 : Nat) : Int) := w64_succ (by omega)
    have f1 : fitsB (j + 1) 16 := fits (by omega) (by omega)
    have e1 : r4.tx (j + 1) = r4.tx j ++ [(r4.tx' j).text 1024] := rfl
    have e2 : r4.tx' (j + 1) = (r4.tx' j).text' 1024 := rfl
    have hl := r4.tx_length j
    generalize r4.tx j = x at *
    generalize r4.tx' j = q at *
    have m5 := text_meets (G := G) q 1024
    generalize q.text' 1024 = q' at *
    generalize q.text 1024 = t at *
    have hS : Strs x ++ [AV.v (.string (mkS t))] = Strs (x ++ [t]) := by simp [Strs]
    simp [hj, rdM]
    refine call_intro m5 ?_ ?_
    · simp [rdM]
    simp [rdM, f1, hl, hw, hS]
    exact ⟨(), _, Weak.re0 1000 (by simp [e1, e2]), trivial⟩
  · intro _ c _
    have hl := r4.tx_length N
    generalize r4.tx N = x at *
    generalize r4.tx' N = q at *
    have m6 := good_meets (G := G) q
    simp [rdM]
    refine call_intro m6 ?_ ?_
    · simp [rdM]
    cases hb : q.bad
    · simp [rdM, hb]
      refine post_end (.inr rfl) ?_
      simp [Rep.avR, hl, hb]
    · simp [rdM, hb]
      refine post_end (.inr rfl) ?_
      simp [Rep.avR, Rep.zero, hb]

/-! The reference. -/
def Rep.same (a b : Rep) : Bool := decide (a.client = b.client) && decide (a.num = b.num) && decide (a.code = b.code) && decide (a.vals = b.vals)
end Go.Proofs.YtbmdaaehogpeeaaDoor.WL

end
section
/-
  CHAPTER 12: contracts of blocks: what follows, what is the same; reading.
-/
namespace Go.Proofs.YtbmdaaehogpeeaaDoor.WL
open Go
set_option maxHeartbeats 4000000
variable {G : Nat → Option AV}

def Blk.follows (b : Blk) (e h : Int) (p s : Dg) : Bool := b.good && (decide (b.epoch = e) && decide (b.height = h) && decide (b.prev = p) && decide (b.state = s))
end Go.Proofs.YtbmdaaehogpeeaaDoor.WL

end
section
/-
  CHAPTER 09: walks of laws.
-/
namespace Go.Proofs.YtbmdaaehogpeeaaDoor.WL
open Go
set_option maxHeartbeats 4000000
variable {G : Nat → Option AV}

def Req.put : Req := ⟨1, 1, 2, [107], [118], [], Chg.zero⟩
end Go.Proofs.YtbmdaaehogpeeaaDoor.WL

end
section
/-
  CHAPTER 09: walks of laws: reading.
-/
namespace Go.Proofs.YtbmdaaehogpeeaaDoor.WL
open Go
set_option maxHeartbeats 4000000
variable {G : Nat → Option AV}

deriving instance DecidableEq for Chg, Req
end Go.Proofs.YtbmdaaehogpeeaaDoor.WL

end
section
/-
  CHAPTER 12: contracts of the reference: what is great, what can be, what is the same.
-/
namespace Go.Proofs.YtbmdaaehogpeeaaDoor.WL
open Go
set_option maxHeartbeats 4000000
variable {G : Nat → Option AV}

def Blk.great (b : Blk) (m : Nat) : Bool := decide (40 < b.qs.length) || decide (m < (reqsB b.qs).length)
end Go.Proofs.YtbmdaaehogpeeaaDoor.WL

end
section
/-
  CHAPTER 12: contracts of the reference: what can be, what is the same.
-/
namespace Go.Proofs.YtbmdaaehogpeeaaDoor.WL
open Go
set_option maxHeartbeats 4000000
variable {G : Nat → Option AV}

def Blk.same (a b : Blk) : Bool := decide (a.epoch = b.epoch) && decide (a.height = b.height) && decide (a.prev = b.prev) && decide (a.state = b.state) && decide (a.next = b.next) && decide (a.qs = b.qs)
end Go.Proofs.YtbmdaaehogpeeaaDoor.WL

end
section
/-
  CHAPTER 13: contracts of votes and plans, written and read.
-/
namespace Go.Proofs.YtbmdaaehogpeeaaDoor.WL
open Go
set_option maxHeartbeats 4000000
variable {G : Nat → Option AV}
attribute [local irreducible] sha
attribute [local irreducible] Rd.sig Rd.sig' Rd.blk Rd.blk' Rd.inn Rd.inn' Rd.dg Rd.dg' Rd.rep Rd.rep' repR

/-! What is read is its own, and stays. -/
theorem qrrep_frz (r : Rd) : Meets Tryd.prog G fn_request_ReadReply [.ptr 1000 0 0] (rdM 0 r) false r.rep.avS (rdM 1 r.rep') := by
  refine (qrrep_meets r).freeze ⟨by simp [rdM], by simp [rdM], by simp [rdM]⟩ ?_
  simp [rdM, Rep.avR, Rep.avS]

end Go.Proofs.YtbmdaaehogpeeaaDoor.WL

end
section
/-
  CHAPTER 13, 08: contracts of plans and configurations, written and read.
-/
namespace Go.Proofs.YtbmdaaehogpeeaaDoor.WL
open Go
set_option maxHeartbeats 4000000
variable {G : Nat → Option AV}
attribute [local irreducible] sha
attribute [local irreducible] Rd.sig Rd.sig' Rd.blk Rd.blk' Rd.inn Rd.inn' Rd.dg Rd.dg' Rd.rep Rd.rep' repR

/-! Configurations. -/
theorem memsB_take (ms : List Mem) (i : Nat) (h : i < ms.length) : memsB (ms.take (i + 1)) = memsB (ms.take i) ++ memB ms[i] := by
  rw [List.take_succ_eq_append_getElem h]
  unfold memsB
  rw [List.flatMap_append]
  simp only [List.flatMap_cons, List.flatMap_nil, List.append_nil]
theorem memB_len (m : Mem) : (memB m).length = 48 := by simp [memB, nums_length]
theorem memsB_len (ms : List Mem) : (memsB ms).length = 48 * ms.length := by
  induction ms with
  | nil => rfl
  | cons m ms ih =>
    show (memB m ++ memsB ms).length = _
    rw [List.length_append, memB_len, ih, List.length_cons]
    omega
theorem cwrite_meets (bs : Bytes) (c : Conf) (h : bs.length ≤ 50000000) (hn : c.ms.length ≤ 1000) : Meets Tryd.prog G fn_config_Write [.ptr 1000 0 0, c.av] (wrM 0 bs) true (.tup []) (wrM 1 (bs ++ c.bytes)) := by
  refine meets_of_go mix k_config_Write ⟨by simp [wrM], by simp, by simp [wrM]⟩ ?_
  have m1 := wnum_meets (G := G) bs [c.epoch, (c.ms.length : Int)] (by simp; omega)
  have hy : (bs ++ nums [c.epoch, (c.ms.length : Int)]).length = bs.length + 16 := by rw [List.length_append, nums_length]; simp
  have hb : bs ++ c.bytes = bs ++ nums [c.epoch, (c.ms.length : Int)] ++ memsB c.ms := by simp [Conf.bytes]
  rw [hb]
  generalize bs ++ nums [c.epoch, (c.ms.length : Int)] = y at *
  generalize hms : c.ms = ms at *
  have hlen := memsB_len ms
  simp [wrM, Conf.av, hms]
  refine call_intro m1 ?_ ?_
  · simp [wrM, I64_2]
  simp [wrM, I64_2]
  obtain ⟨F, hF⟩ : ∃ F : Nat → Bytes, ∀ i, F i = y ++ memsB (ms.take i) := ⟨_, fun _ => rfl⟩
  have hF0 : y = F 0 := by rw [hF]; simp [memsB]
  have hFN : y ++ memsB ms = F ms.length := by rw [hF, List.take_length]
  have hFl : ∀ i, i ≤ ms.length → (F i).length = y.length + 48 * i := by intro i hi; rw [hF, List.length_append, memsB_len, List.length_take]; omega
  have hFlN : (F ms.length).length = y.length + 48 * ms.length := hFl _ (Nat.le_refl _)
  have hy0 := hy
  have h0l : (F 0).length = y.length := by rw [← hF0]
  rw [hFN]
  rw [hF0] at hy ⊢
  refine go_up ms.length (fun j (_ : Unit) => True) (fun j _ c => ⟨[(0, .ptr 1000 0 0), (15, .sl 34 (Mems ms)), (16, .v (.int .i64 (ms.length : Nat))), (17, .v (.int .i64 (j : Nat)))], [(1000, .var 0 (.node [.row 2000 1 c 0 (F j).length])), (2000, .rows c 1 (B (F j)))], c + 1⟩) () _ (Weak.re0 1000 (by simp)) trivial ?_ ?_
  · intro j _ c hj _
    have hw : IntKind.i64.wrap ((j : Int) + 1) = ((j + 1 : Nat) : Int) := w64_succ (by omega)
    have hlj := hFl j (by omega)
    have hFs : F j ++ memB ms[j] = F (j + 1) := by rw [hF, hF, memsB_take ms j hj, List.append_assoc]
    have m4 := wnum_meets (G := G) (F j) [ms[j].id, ms[j].height] (by simp; omega)
    have m5 := wdigest_meets (G := G) (F j ++ nums [ms[j].id, ms[j].height]) [ms[j].root] (by rw [List.length_append, nums_length]; simp; omega)
    have e : F j ++ nums [ms[j].id, ms[j].height] ++ flatD [ms[j].root] = F (j + 1) := by rw [← hFs]; simp [memB, flatD]
    rw [e] at m5
    generalize F j ++ nums [ms[j].id, ms[j].height] = x1 at *
    simp [hj, Mem.av, dv]
    refine call_intro m4 ?_ ?_
    · simp [wrM, I64_2]
    simp [wrM, I64_2]
    refine call_intro m5 ?_ ?_
    · simp [wrM, Dgs_1]
    simp [wrM, Dgs_1]
    simp [hw]
    exact ⟨(), _, Weak.re0 1000 (by simp), trivial⟩
  · intro _ c _
    simp
    refine post_end (.inl rfl) ?_
    simp [hFlN, h0l, hlen]
theorem cread_meets (r : Rd) : Meets Tryd.prog G fn_config_Read [.ptr 1000 0 0] (rdM 0 r) false (confF.rd r).av (rdM 1 (confF.rd' r)) := by
  refine meets_of_go mix k_config_Read ⟨by simp [rdM], by simp [rdM], by simp [rdM]⟩ ?_
  rw [confF_rd, confF_rd']
  have hN : ((r.confN : Nat) : Int) = (r.inn' 0 1073741824).inn 1 10 ∧ r.confN ≤ 10 := by
    have : (0 : Int) ≤ (r.inn' 0 1073741824).inn 1 10 ∧ (r.inn' 0 1073741824).inn 1 10 ≤ 10 := by
      unfold Rd.inn Rd.inOk
      split
      · rename_i k
        simp only [Bool.and_eq_true, decide_eq_true_eq] at k
        omega
      · omega
    unfold Rd.confN
    omega
  obtain ⟨hN, hN2⟩ := hN
  generalize r.confN = N at *
  have m1 := in_meets (G := G) r 0 1073741824
  generalize r.inn 0 1073741824 = a1 at *
  generalize r.inn' 0 1073741824 = r1 at *
  have m2 := in_meets (G := G) r1 1 10
  rw [← hN] at m2
  clear hN
  generalize r1.inn' 1 10 = r2 at *
  simp [rdM]
  refine call_intro m1 ?_ ?_
  · simp [rdM]
  simp [rdM]
  refine call_intro m2 ?_ ?_
  · simp [rdM]
  simp [rdM]
  obtain ⟨L, hL⟩ : ∃ L : Nat → List Mem, ∀ i, L i = (repR memF r2 i).1 := ⟨_, fun _ => rfl⟩
  obtain ⟨R, hR⟩ : ∃ R : Nat → Rd, ∀ i, R i = (repR memF r2 i).2 := ⟨_, fun _ => rfl⟩
  have hL0 : L 0 = [] := by rw [hL]; simp only [repR]
  have hR0 : r2 = R 0 := by rw [hR]; simp only [repR]
  have hLl : ∀ i, (L i).length = i := fun i => by rw [hL]; exact repR_length memF r2 i
  rw [← hL, ← hR]
  rw [hR0]
  refine go_up N (fun j (_ : Unit) => lastId (L j) ≤ 63 ∧ 0 ≤ lastId (L j)) (fun j _ c => ⟨[(0, .ptr 1000 0 0), (2, .ptr 2 c 0), (3, .ptr 3 c 0), (4, .v (.int .i64 (lastId (L j)))), (10, .v (.int .i64 (N : Nat))), (11, .v (.int .i64 (j : Nat)))],
    [(2, .var c (.node [.v (.int .i64 0), .v (.slice none 0 0)])), (3, .var c (.node [.v (.int .i64 a1), .row 28 34 c 0 j])), (28, .rows c 34 (Mems (L j))),
     (1000, .var 0 (.node [.row 2000 1 c (R j).pre.length (R j).s.length, .v (.bool (R j).bad)])), (2000, .rows c 1 (B ((R j).pre ++ (R j).s)))], c + 1⟩) () _ (Weak.re0 1000 (by simp [hL0])) (by simp [hL0]) ?_ ?_
  · intro j _ c hj hlast
    have hw : IntKind.i64.wrap ((j : Int) + 1) = ((j + 1 : Nat) : Int) := w64_succ (by omega)
    have f1 : fitsB (j + 1) 48 := fits (by omega) (by omega)
    have e1 : L (j + 1) = L j ++ [(memF (L j)).rd (R j)] := by rw [hL, hL, hR]; simp only [repR]
    have e2 : R (j + 1) = (memF (L j)).rd' (R j) := by rw [hR, hL, hR]; simp only [repR]
    have e3 : ∀ l r, (memF l).rd r = ⟨r.inn (lastId l + 1) 63, ((r.inn' (lastId l + 1) 63).inn' 0 6).dg, (r.inn' (lastId l + 1) 63).inn 0 6⟩ := fun _ _ => rfl
    have e4 : ∀ l r, (memF l).rd' r = ((r.inn' (lastId l + 1) 63).inn' 0 6).dg' := fun _ _ => rfl
    rw [e3] at e1
    rw [e4] at e2
    have hlj := hLl j
    have hw2 : IntKind.i64.wrap (lastId (L j) + 1) = lastId (L j) + 1 := w64_id (by omega)
    generalize hln : lastId (L j) = ln at *
    have hri : (R j).inn (ln + 1) 63 ≤ 63 ∧ 0 ≤ (R j).inn (ln + 1) 63 := by
      unfold Rd.inn Rd.inOk
      split
      · rename_i k
        simp only [Bool.and_eq_true, decide_eq_true_eq] at k
        omega
      · omega
    generalize R j = q at *
    have m3 := in_meets (G := G) q (ln + 1) 63
    generalize q.inn (ln + 1) 63 = b1 at *
    generalize q.inn' (ln + 1) 63 = q1 at *
    have m4 := in_meets (G := G) q1 0 6
    generalize q1.inn 0 6 = b2 at *
    generalize q1.inn' 0 6 = q2 at *
    have m5 := digest_meets (G := G) q2
    generalize q2.dg = b3 at *
    generalize q2.dg' = q3 at *
    generalize L j = x at *
    have hS := Mems_snoc x ⟨b1, b3, b2⟩
    simp only [Mem.av, dv] at hS
    simp [hj, rdM, hw2]
    refine call_intro m3 ?_ ?_
    · simp [rdM]
    simp [rdM]
    refine call_intro m4 ?_ ?_
    · simp [rdM]
    simp [rdM]
    refine call_intro m5 ?_ ?_
    · simp [rdM]
    simp [rdM, f1, hlj, hS, dv]
    simp [hw]
    refine ⟨(), _, Weak.re0 1000 (by simp [e1, e2]), ?_⟩
    show lastId (L (j + 1)) ≤ 63 ∧ 0 ≤ lastId (L (j + 1))
    rw [e1, lastId_snoc]
    exact hri
  · intro _ c hlast
    have hlN := hLl N
    generalize R N = q at *
    generalize L N = x at *
    have m8 := good_meets (G := G) q
    have htx : List.take N x = x := List.take_of_length_le (by omega)
    simp [rdM]
    refine call_intro m8 ?_ ?_
    · simp [rdM]
    simp [rdM]
    cases hb : q.bad
    · simp [rdM, hb]
      refine post_end (.inr rfl) ?_
      simp [Conf.av, hb, hlN, htx]
    · simp [rdM, hb]
      refine post_end (.inr rfl) ?_
      simp [Conf.av, Conf.zero, hb]
end Go.Proofs.YtbmdaaehogpeeaaDoor.WL

end
section
/-
  CHAPTER 14, 15: contracts of words and links, written and read.
-/
namespace Go.Proofs.YtbmdaaehogpeeaaDoor.WL
open Go
set_option maxHeartbeats 4000000
variable {G : Nat → Option AV}
attribute [local irreducible] sha
attribute [local irreducible] Rd.sig Rd.sig' Rd.blk Rd.blk' Rd.inn Rd.inn' Rd.dg Rd.dg' Rd.rep Rd.rep' repR

theorem voteF_len (v : Vote) (h : v.sig.ok = true) : (voteF.wr v).length ≤ 2328 := by
  simp only [Sig.ok, decide_eq_true_eq] at h
  rw [voteF_wr, List.length_append, Sig.bytes_len]
  simp [Vote.head, nums_length]
  omega
theorem votesB_len : ∀ (vs : List Vote), (vs.all fun v => v.sig.ok) = true → (votesB vs).length ≤ 2328 * vs.length
  | [], _ => by simp [votesB]
  | v :: vs, h => by
    simp only [List.all_cons, Bool.and_eq_true] at h
    have h1 := voteF_len v h.1
    have h2 := votesB_len vs h.2
    show (voteF.wr v ++ votesB vs).length ≤ _
    rw [List.length_append, List.length_cons]
    omega
/-! Links. -/
theorem Cert.bytes_len (x : Cert) (h : x.ok = true) : x.bytes.length ≤ 16 + 2328 * x.votes.length := by
  have := votesB_len x.votes h
  simp only [Cert.bytes, List.length_append, nums_length, List.length_cons, List.length_nil]
  omega
end Go.Proofs.YtbmdaaehogpeeaaDoor.WL

end
section
/-
  CHAPTER 05: contracts of the reference: writing and reading.
-/
namespace Go.Proofs.YtbmdaaehogpeeaaDoor.WL
open Go
set_option maxHeartbeats 4000000
variable {G : Nat → Option AV}

/-- Where the next digest goes. -/
structure KdA where
  o : List Dg
  s : List Dg
  p : List Dg
def KdA.put (a : KdA) (i : Nat) (d : Dg) : KdA := if i < 32 then { a with o := a.o ++ [d] } else if i < 64 then { a with s := a.s ++ [d] } else { a with p := a.p ++ [d] }
end Go.Proofs.YtbmdaaehogpeeaaDoor.WL

end
section
/-
  CHAPTER 02: contracts: words.
-/
namespace Go.Proofs.YtbmdaaehogpeeaaDoor.WL
open Go
set_option maxHeartbeats 4000000

theorem rot_meets {G : Nat → Option AV} (x : UInt32) (r : Nat) (h : 0 < r ∧ r < 32) : Meets Tryd.prog G fn_bits_RotateLeft32 [wv x, .v (.int .i64 (-(r : Int)))] [] true (wv (rotr x r)) [] := by
  refine meets_of_go mix k_bits_RotateLeft32 ⟨by simp, by simp, by simp⟩ ?_
  have h1 : bitsOp .and .u64 (IntKind.u64.wrap (-(r : Int))) 31 = ((32 - r : Nat) : Int) := by
    obtain ⟨k, rfl⟩ : ∃ k : Fin 32, r = k.val := ⟨⟨r, h.2⟩, rfl⟩
    revert h
    revert k
    decide +kernel
  have h2 : (0 : Int) ≤ ((32 - r : Nat) : Int) := by omega
  have h3 : IntKind.u64.wrap (32 - ((32 - r : Nat) : Int)) = (r : Int) := by rw [u64_id (by omega)]; omega
  have h4 : min (32 - r) 32 = 32 - r := by omega
  have h5 : min r 32 = r := by omega
  have h6 := u32_shl x (32 - r) (by omega)
  have h7 := u32_shr x r h.2
  have h8 : (x <<< UInt32.ofNat (32 - r)) ||| (x >>> UInt32.ofNat r) = rotr x r := UInt32.or_comm _ _
  simp [h1, h2, h3, h4, h5, h6, h7, u32_or, h8]
  refine post_end (.inr rfl) ?_
  simp

theorem word_meets {G : Nat → Option AV} (b : Bytes) (h : 4 ≤ b.length) : Meets Tryd.prog G fn_sha_word [.sl 1 (B b)] [] true (wv (word4 (b.getD 0 0) (b.getD 1 0) (b.getD 2 0) (b.getD 3 0))) [] := by
  refine meets_of_go mix k_sha_word ⟨by simp, by simp, by simp⟩ ?_
  match b, h with
  | a :: b :: c :: d :: r, _ =>
    have h1 := u32_shl a.toUInt32 24 (by decide)
    have h2 := u32_shl b.toUInt32 16 (by decide)
    have h3 := u32_shl c.toUInt32 8 (by decide)
    simp only [Int.reducePow] at h1 h2 h3
    simp [u32_byte, h1, h2, h3, u32_or]
    refine post_end (.inr rfl) ?_
    simp [word4]

end Go.Proofs.YtbmdaaehogpeeaaDoor.WL

end
section
/-
  CHAPTER 02: contracts: a block.
-/
namespace Go.Proofs.YtbmdaaehogpeeaaDoor.WL
open Go
set_option maxHeartbeats 4000000

attribute [local irreducible] rounds grow table

/-- The program's variable. -/
def Gt : Nat → Option AV := fun n => if n = 0 then some (.arr 1 (U table)) else none
def St.av (s : St) : AV := .arr 1 (U s.list)
/-- A state variable. -/
def stM (s : St) : List (Nat × Loc) := [(1000, .var 0 s.av)]

theorem words_get (b : Bytes) (j : Nat) (h : j < 16) : (words b)[j]? = some (word4 (b.getD (4 * j) 0) (b.getD (4 * j + 1) 0) (b.getD (4 * j + 2) 0) (b.getD (4 * j + 3) 0)) := by simp [words, h]

/-- The next word, out of an array with room behind it. -/
theorem next_get (w : List UInt32) (z : List UInt32) (k : Nat) (hk : k ≤ w.length) (h0 : 0 < k) : (w ++ z)[w.length - k]? = some (w.getD (w.length - k) 0) := by
  rw [List.getElem?_append_left (by omega), List.getD_eq_getElem?_getD, List.getElem?_eq_getElem (by omega)]
  rfl
theorem grow_set (w : List UInt32) (n : Nat) (v : UInt32) : (w ++ zeros32 (n + 1)).set w.length v = (w ++ [v]) ++ zeros32 n := by
  rw [List.set_append_right _ _ (Nat.le_refl _), Nat.sub_self, List.append_assoc]
  rfl
def plusL (s t : St) (j : Nat) : List UInt32 := (s.plus t).list.take j ++ s.list.drop j
theorem plusL_get (s t : St) (j : Nat) (h : j < 8) : (plusL s t j)[j]? = some (s.list.getD j 0) ∧ (plusL s t j).set j (s.list.getD j 0 + t.list.getD j 0) = plusL s t (j + 1) ∧ t.list[j]? = some (t.list.getD j 0) := by
  match j, h with
  | 0, _ => exact ⟨rfl, rfl, rfl⟩
  | 1, _ => exact ⟨rfl, rfl, rfl⟩
  | 2, _ => exact ⟨rfl, rfl, rfl⟩
  | 3, _ => exact ⟨rfl, rfl, rfl⟩
  | 4, _ => exact ⟨rfl, rfl, rfl⟩
  | 5, _ => exact ⟨rfl, rfl, rfl⟩
  | 6, _ => exact ⟨rfl, rfl, rfl⟩
  | 7, _ => exact ⟨rfl, rfl, rfl⟩
@[simp] theorem plusL_length (s t : St) (j : Nat) (h : j ≤ 8) : (plusL s t j).length = 8 := by
  have h1 : (s.plus t).list.length = 8 := rfl
  have h2 : s.list.length = 8 := rfl
  simp only [plusL, List.length_append, List.length_take, List.length_drop, h1, h2]
  omega
theorem plusL_8 (s t : St) : plusL s t 8 = (s.plus t).list := rfl
theorem plusL_0 (s t : St) : plusL s t 0 = s.list := rfl
theorem comp_eq (s : St) (b : Bytes) (w : List UInt32) (N : Nat) (hN : N = 64) (h : grow 48 (words b) = w) : comp s b = s.plus (rounds w N s) := by subst hN h; rfl
theorem getD_get (l : List UInt32) (j : Nat) (h : j < l.length) : l[j]? = some (l.getD j 0) := by
  rw [List.getD_eq_getElem?_getD, List.getElem?_eq_getElem h]
  rfl
def i16 (j : Nat) : Int := ((16 + j : Nat) : Int)
@[simp] theorem i16_0 : i16 0 = 16 := rfl
@[simp] theorem i16_48 : i16 48 = 64 := rfl
theorem i16_eq (j : Nat) : i16 j = 16 + (j : Int) := by simp [i16]
theorem rot_lit {G : Nat → Option AV} (x : UInt32) (r : Nat) (k : Int) (h : (0 < r ∧ r < 32) ∧ k = -(r : Int)) : Meets Tryd.prog G fn_bits_RotateLeft32 [wv x, .v (.int .i64 k)] [] true (wv (rotr x r)) [] := by
  obtain ⟨h1, rfl⟩ := h
  exact rot_meets x r h1
theorem shr3 (x : UInt32) : w32 x / (8 : Int) = w32 (x >>> 3) := by have := u32_shr x 3 (by decide); simpa using this
theorem shr10 (x : UInt32) : w32 x / (1024 : Int) = w32 (x >>> 10) := by have := u32_shr x 10 (by decide); simpa using this
theorem block_meets (s : St) (b : Bytes) (hb : b.length = 64) : Meets Tryd.prog Gt fn_sha_state_block [.ptr 1000 0 0, .sl 1 (B b)] (stM s) true (.tup []) (stM (comp s b)) := by
  refine meets_of_go mix k_sha_state_block ⟨by simp [stM, St.av], by simp, by simp [stM]⟩ ?_
  simp [stM]
  refine go_up 16 (fun j (x : List UInt32) => x = (words b).take j ++ zeros32 (64 - j)) (fun j x c => ⟨[(0, .ptr 1000 0 0), (1, .sl 1 (B b)), (4, .ptr 4 c 0), (26, .v (.int .i64 (j : Nat)))], [(4, .var c (.arr 1 (U x))), (1000, .var 0 s.av)], c + 1⟩)
    (zeros32 64) _ (Weak.re0 1000 (by simp [St.av])) (by simp) ?_ ?_
  · intro j x c hj hx
    have hw : IntKind.i64.wrap ((j : Int) + 1) = ((j + 1 : Nat) : Int) := w64_succ (by omega)
    obtain ⟨q, hq⟩ : ∃ q : Nat, q = 4 * j := ⟨_, rfl⟩
    have hw4 : IntKind.i64.wrap (4 * (j : Int)) = (q : Int) := by rw [w64_id (by omega)]; omega
    have hb64 : List.take 64 b = b := List.take_of_length_le (by omega)
    have hj16 : (j : Int) < 16 := by omega
    have hj64 : (j : Int) < 64 := by omega
    have hjn : j < 64 := by omega
    have h4 : q ≤ 64 ∧ (q : Int) ≤ 64 := by omega
    have hxl : x.length = 64 := by rw [hx]; simp; omega
    have hg : x.set j (word4 (b.getD (4 * j) 0) (b.getD (4 * j + 1) 0) (b.getD (4 * j + 2) 0) (b.getD (4 * j + 3) 0)) = (words b).take (j + 1) ++ zeros32 (64 - (j + 1)) := by
      have h1 := fill_zeros32 (words b) 64 j (by simp; omega) (by simp)
      have h2 := words_get b j hj
      rw [List.getElem?_eq_getElem (by simp; omega)] at h2
      rw [Option.some.inj h2, ← hx] at h1
      exact h1
    have hd : ∀ k, (b.drop (4 * j)).getD k 0 = b.getD (4 * j + k) 0 := fun k => by simp [List.getD_eq_getElem?_getD]
    have hc := word_meets (G := Gt) (b.drop (4 * j)) (by simp; omega)
    rw [hd, hd, hd, hd] at hc
    rw [← hq] at hd hc hg
    generalize hv : word4 (b.getD q 0) (b.getD (q + 1) 0) (b.getD (q + 2) 0) (b.getD (q + 3) 0) = v at *
    simp [hj16, hw4, hb, h4, hb64]
    refine call_intro hc ?_ ?_
    · simp
    simp [hj64, hjn, hw, hxl, U_set, Nat.mod_one, hv]
    exact ⟨_, _, Weak.re0 1000 (by simp [hg, St.av]), rfl⟩
  · intro x c hx
    simp
    refine go_up 48 (fun j (x : List UInt32) => x = grow j (words b) ++ zeros32 (48 - j)) (fun j x c => ⟨[(0, .ptr 1000 0 0), (4, .ptr 4 c 0), (6, .v (.int .i64 (i16 j)))], [(4, .var c (.arr 1 (U x))), (1000, .var 0 s.av)], c + 1⟩)
      x _ (Weak.re0 1000 (by simp [St.av])) (by rw [hx, List.take_of_length_le (by simp), grow_zero]) ?_ ?_
    · intro j x c hj hx
      have e := i16_eq j
      have e1 := i16_eq (j + 1)
      have hw : IntKind.i64.wrap (i16 j + 1) = i16 (j + 1) := by rw [w64_id (by omega)]; omega
      have a15 : IntKind.i64.wrap (i16 j - 15) = ((j + 1 : Nat) : Int) := by rw [w64_id (by omega)]; omega
      have a2 : IntKind.i64.wrap (i16 j - 2) = ((j + 14 : Nat) : Int) := by rw [w64_id (by omega)]; omega
      have a16 : IntKind.i64.wrap (i16 j - 16) = ((j : Nat) : Int) := by rw [w64_id (by omega)]; omega
      have a7 : IntKind.i64.wrap (i16 j - 7) = ((j + 9 : Nat) : Int) := by rw [w64_id (by omega)]; omega
      have hlt : i16 j < 64 := by omega
      have hge : 0 ≤ i16 j := by omega
      have htn : (i16 j).toNat = 16 + j := by omega
      have hxl : x.length = 64 := by rw [hx]; simp; omega
      obtain ⟨k1, hk1⟩ : ∃ k : Nat, k = j + 1 := ⟨_, rfl⟩
      obtain ⟨k14, hk14⟩ : ∃ k : Nat, k = j + 14 := ⟨_, rfl⟩
      obtain ⟨k9, hk9⟩ : ∃ k : Nat, k = j + 9 := ⟨_, rfl⟩
      rw [← hk1] at a15
      rw [← hk14] at a2
      rw [← hk9] at a7
      have b1 : (k1 : Int) < 64 ∧ k1 < 64 ∧ (k14 : Int) < 64 ∧ k14 < 64 ∧ (k9 : Int) < 64 ∧ k9 < 64 ∧ (j : Int) < 64 ∧ j < 64 ∧ 16 + j < 64 := by omega
      have hgl : (grow j (words b)).length = 16 + j := by simp
      have g15 := next_get (grow j (words b)) (zeros32 (48 - j)) 15 (by omega) (by omega)
      have g2 := next_get (grow j (words b)) (zeros32 (48 - j)) 2 (by omega) (by omega)
      have g16 := next_get (grow j (words b)) (zeros32 (48 - j)) 16 (by omega) (by omega)
      have g7 := next_get (grow j (words b)) (zeros32 (48 - j)) 7 (by omega) (by omega)
      rw [← hx] at g15 g2 g16 g7
      rw [hgl, show 16 + j - 15 = k1 by omega] at g15
      rw [hgl, show 16 + j - 2 = k14 by omega] at g2
      rw [hgl, show 16 + j - 16 = j by omega] at g16
      rw [hgl, show 16 + j - 7 = k9 by omega] at g7
      have hn : next (grow j (words b)) = (grow j (words b)).getD j 0 + s0 ((grow j (words b)).getD k1 0) + (grow j (words b)).getD k9 0 + s1 ((grow j (words b)).getD k14 0) := by
        unfold next
        rw [hgl, show 16 + j - 15 = k1 by omega, show 16 + j - 2 = k14 by omega, show 16 + j - 16 = j by omega, show 16 + j - 7 = k9 by omega]
      have hs := grow_set (grow j (words b)) (47 - j) (next (grow j (words b)))
      rw [show 47 - j + 1 = 48 - j by omega, ← hx, hgl, hn, show 47 - j = 48 - (j + 1) by omega, ← hn] at hs
      have e16 := (List.getElem?_eq_some_iff.1 g16).2
      have e7 := (List.getElem?_eq_some_iff.1 g7).2
      generalize (grow j (words b)).getD k1 0 = w15 at *
      generalize (grow j (words b)).getD k14 0 = w2 at *
      generalize (grow j (words b)).getD j 0 = w16 at *
      generalize (grow j (words b)).getD k9 0 = w7 at *
      simp [hlt, a15, a2, b1, g15, g2]
      refine call_intro (rot_lit w15 7 (-7) (by decide)) ?_ ?_
      · simp
      simp
      refine call_intro (rot_lit w15 18 (-18) (by decide)) ?_ ?_
      · simp
      simp [u32_xor, shr3]
      refine call_intro (rot_lit w2 17 (-17) (by decide)) ?_ ?_
      · simp
      simp
      refine call_intro (rot_lit w2 19 (-19) (by decide)) ?_ ?_
      · simp
      simp [u32_xor, shr10, a16, a7, b1, e16, e7, u32_add, hlt, hge, htn, hxl, U_set, hw]
      exact ⟨x.set (16 + j) (next (grow j (words b))), _, Weak.re0 1000 (by simp [St.av, hn, s0, s1]), hs.trans (by rw [← grow_succ])⟩
    · intro x c hx
      have hx2 : x = grow 48 (words b) := by rw [hx]; simp [zeros32]
      have hwl : (grow 48 (words b)).length = 64 := by simp
      subst hx2
      generalize hgw : grow 48 (words b) = w at *
      simp [St.av, St.list, hwl]
      obtain ⟨N, hN⟩ : ∃ N : Nat, N = 64 := ⟨_, rfl⟩
      have hNI : (N : Int) = 64 := by omega
      refine go_up N (fun _ _ => True) (fun j (_ : Unit) c => ⟨[(0, .ptr 1000 0 0), (11, wv (rounds w j s).a), (12, wv (rounds w j s).b), (13, wv (rounds w j s).c), (14, wv (rounds w j s).d), (15, wv (rounds w j s).e), (16, wv (rounds w j s).f), (17, wv (rounds w j s).g), (18, wv (rounds w j s).h), (112, .arr 1 (U w)), (113, .v (.int .i64 (j : Nat)))], [(1000, .var 0 (.arr 1 (U s.list)))], c + 1⟩)
        () _ (Weak.re0 1000 (by simp [St.list, rounds_zero])) trivial ?_ ?_
      · intro j _ c hj _
        have hw : IntKind.i64.wrap ((j : Int) + 1) = ((j + 1 : Nat) : Int) := w64_succ (by omega)
        have hj64 : (j : Int) < 64 := by omega
        have gw := getD_get w j (by omega)
        have hj : j < 64 := by omega
        have gt := getD_get table j (by rw [table_length]; exact hj)
        have ew := (List.getElem?_eq_some_iff.1 gw).2
        have et := (List.getElem?_eq_some_iff.1 gt).2
        have hr : rounds w (j + 1) s = (rounds w j s).round (table.getD j 0) (w.getD j 0) := rounds_succ w j s
        generalize table.getD j 0 = kj at *
        generalize w.getD j 0 = wj at *
        generalize rounds w j s = r at *
        simp [hj64, hwl, hj, ew, et]
        refine call_intro (rot_lit r.e 6 (-6) (by decide)) ?_ ?_
        · simp
        simp
        refine call_intro (rot_lit r.e 11 (-11) (by decide)) ?_ ?_
        · simp
        simp [u32_xor]
        refine call_intro (rot_lit r.e 25 (-25) (by decide)) ?_ ?_
        · simp
        simp [u32_xor, u32_add, u32_and, Gt, hj64, hj, ew, et]
        refine call_intro (rot_lit r.a 2 (-2) (by decide)) ?_ ?_
        · simp
        simp
        refine call_intro (rot_lit r.a 13 (-13) (by decide)) ?_ ?_
        · simp
        simp [u32_xor]
        refine call_intro (rot_lit r.a 22 (-22) (by decide)) ?_ ?_
        · simp
        simp [u32_xor, u32_add, u32_and, hw]
        exact ⟨(), _, Weak.re0 1000 (by simp [hr, St.round, St.p, St.q]), trivial⟩
      · intro _ c _
        have hcb := comp_eq s b w N hN hgw
        have hp8 := plusL_8 s (rounds w N s)
        rw [← hcb] at hp8
        clear hcb hgw hx

        generalize rounds w N s = r at *
        generalize comp s b = q at *
        simp [hNI]
        refine go_up 8 (fun _ _ => True) (fun j (_ : Unit) c => ⟨[(0, .ptr 1000 0 0), (185, .arr 1 (U r.list)), (186, .v (.int .i64 (j : Nat)))], [(1000, .var 0 (.arr 1 (U (plusL s r j))))], c + 1⟩)
          () _ (Weak.re0 1000 (by simp [plusL_0, U, St.list])) trivial ?_ ?_
        · intro j _ c hj _
          have hw : IntKind.i64.wrap ((j : Int) + 1) = ((j + 1 : Nat) : Int) := w64_succ (by omega)
          have hj8 : (j : Int) < 8 := by omega
          obtain ⟨g1, g2, g3⟩ := plusL_get s r j hj
          have e1 := (List.getElem?_eq_some_iff.1 g1).2
          have e3 := (List.getElem?_eq_some_iff.1 g3).2
          have hpl := plusL_length s r j (by omega)
          have hrl : r.list.length = 8 := rfl
          generalize s.list.getD j 0 = sj at *
          generalize r.list.getD j 0 = rj at *
          simp [hj8, hj, hpl, hrl, e1, e3]
          simp [u32_add, hw, U_set, g2]
          exact ⟨(), _, Weak.re0 1000 (by simp), trivial⟩
        · intro _ c _
          simp [hp8]
          refine post_end (.inl rfl) ?_
          simp [St.list]
end Go.Proofs.YtbmdaaehogpeeaaDoor.WL

end
