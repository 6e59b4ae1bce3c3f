/- Texts put together: S20d, S20e. -/
import Derived.Test.YtglkfbhjimnboaaWm10
section
/-
  CHAPTER 20: contracts of what a mail is written as; Encode.
-/
namespace Go.Proofs.Ytglkfbhjimnboaa.WL
open Go
set_option maxHeartbeats 8000000
variable {G : Nat → Option AV}
attribute [local irreducible] sha
attribute [local irreducible] Rd.sig Rd.sig' Rd.blk Rd.blk' Rd.inn Rd.inn' Rd.dg Rd.dg' Rd.rep Rd.rep' Rd.text Rd.text' Rd.req Rd.req' repR decM decE

theorem bytes_frz (bs : Bytes) (hb : bs.length ≤ 67108864) : Meets Try.prog G fn_code_Writer_Bytes [.ptr 1000 0 0] (wrM 0 bs) false (.sl 1 (B bs)) (wrM 1 bs) := by
  have ht : List.take bs.length bs = bs := List.take_of_length_le (by omega)
  refine (bytes_meets bs hb).freeze ⟨by simp [wrM], by simp [wrM], by simp [wrM]⟩ ?_
  simp [wrM]

/-- What is written of a link. -/
def linkW (l : Lnk) : Bytes := if l.cert.ok = true then linkF.wr l else []
structure Lnk.Lim (l : Lnk) : Prop where
  qs : l.blk.qs.length ≤ 1000
  votes : l.cert.votes.length ≤ 1000
  ms : l.conf.ms.length ≤ 1000
  blk : l.blk.bytes.length ≤ 3000000
theorem lwrite_any (bs : Bytes) (l : Lnk) (h : l.Lim) (hb : bs.length ≤ 10000000) : Meets Try.prog G fn_chain_Write [.ptr 1000 0 0, l.av] (wrM 0 bs) true (.v (.bool l.cert.ok)) (wrM 1 (bs ++ linkW l)) := by
  unfold linkW
  cases hk : l.cert.ok
  · rw [if_neg (by simp), List.append_nil]
    exact lwrite_bad bs l hk h.votes
  · rw [if_pos rfl]
    exact lwrite_meets bs l hk h.votes h.ms (by have := h.qs; omega) (by have := h.blk; omega)
def linksW (ls : List Lnk) : Bytes := ls.flatMap linkW
theorem linksW_take (ls : List Lnk) (i : Nat) (h : i < ls.length) : linksW (ls.take (i + 1)) = linksW (ls.take i) ++ linkW ls[i] := by
  rw [List.take_succ_eq_append_getElem h]
  unfold linksW
  rw [List.flatMap_append]
  simp only [List.flatMap_cons, List.flatMap_nil, List.append_nil]
theorem linksW_take_le (ls : List Lnk) (i : Nat) : (linksW (ls.take i)).length ≤ (linksW ls).length := by
  conv => rhs; rw [← List.take_append_drop i ls]
  simp only [linksW, List.flatMap_append, List.length_append]
  omega
theorem linksW_ok (ls : List Lnk) (h : (ls.all fun l => l.cert.ok) = true) : linksW ls = ls.flatMap linkF.wr := by
  induction ls with
  | nil => rfl
  | cons l ls ih =>
    simp only [List.all_cons, Bool.and_eq_true] at h
    show linkW l ++ linksW ls = linkF.wr l ++ ls.flatMap linkF.wr
    rw [ih h.2]
    unfold linkW
    rw [if_pos h.1]
def pcsB (ps : List Piece) : Bytes := ps.flatMap Piece.bytes
theorem pcsB_take (ls : List Piece) (i : Nat) (h : i < ls.length) : pcsB (ls.take (i + 1)) = pcsB (ls.take i) ++ ls[i].bytes := by
  rw [List.take_succ_eq_append_getElem h]
  unfold pcsB
  rw [List.flatMap_append]
  simp only [List.flatMap_cons, List.flatMap_nil, List.append_nil]
theorem pcsB_take_le (ls : List Piece) (i : Nat) : (pcsB (ls.take i)).length ≤ (pcsB ls).length := by
  conv => rhs; rw [← List.take_append_drop i ls]
  simp only [pcsB, List.flatMap_append, List.length_append]
  omega
theorem Piece.bytes_len (p : Piece) : p.bytes.length = 60 + 32 * p.path.length + p.data.length := by
  simp only [Piece.bytes, List.length_append, nums_length, flatD_length, txt_length, List.length_cons, List.length_nil]
  omega
theorem all_take_succ {α : Type} (p : α → Bool) (l : List α) (i : Nat) (h : i < l.length) : (l.take (i + 1)).all p = ((l.take i).all p && p l[i]) := by
  rw [List.take_succ_eq_append_getElem h, List.all_append]
  simp only [List.all_cons, List.all_nil, Bool.and_true]

/-- What the lists of a mail are, in bytes. -/
structure Mail.LimL (m : Mail) : Prop where
  links : m.links.length ≤ 10000
  link : ∀ l ∈ m.links, l.Lim
  linksW : (linksW m.links).length ≤ 3000000
  pieces : m.pieces.length ≤ 10000
  pcs : (pcsB m.pieces).length ≤ 3000000
theorem list8_meets (bs : Bytes) (m : Mail) (hk : m.kind = 8) (h : m.LimL) (hb : bs.length ≤ 5000000) :
    Meets Try.prog G fn_mail_list [.ptr 1000 0 0, m.av] (wrM 0 bs) true (.v (.bool (m.links.all fun l => l.cert.ok))) (wrM 1 (bs ++ be8 (m.links.length : Int) ++ linksW m.links)) := by
  refine meets_of_go mix k_mail_list ⟨by simp [wrM], by simp, by simp [wrM]⟩ ?_
  have m1 := wnum_meets (G := G) bs [(m.links.length : Int)] (by simp; omega)
  have en : nums [(m.links.length : Int)] = be8 (m.links.length : Int) := by simp [nums]
  rw [en] at m1
  have hy : (bs ++ be8 (m.links.length : Int)).length = bs.length + 8 := by rw [List.length_append, be8_length]
  generalize bs ++ be8 (m.links.length : Int) = y at *
  have hl1 := h.links
  have hl2 := h.link
  have hl3 := h.linksW
  generalize hls : m.links = ls at *
  obtain ⟨F, hF⟩ : ∃ F : Nat → Bytes, ∀ i, F i = y ++ linksW (ls.take i) := ⟨_, fun _ => rfl⟩
  obtain ⟨A, hA⟩ : ∃ A : Nat → Bool, ∀ i, A i = (ls.take i).all fun l => l.cert.ok := ⟨_, fun _ => rfl⟩
  have hF0 : y = F 0 := by rw [hF]; simp [linksW]
  have hA0 : A 0 = true := by rw [hA]; simp
  have hFl : ∀ j, (F j).length ≤ bs.length + 8 + 3000000 := by
    intro j
    have := linksW_take_le ls j
    rw [hF, List.length_append]
    omega
  have hFs : ∀ j (hj : j < ls.length), F j ++ linkW ls[j] = F (j + 1) := fun j hj => by rw [hF, hF, linksW_take ls j hj, List.append_assoc]
  have hAs : ∀ j (hj : j < ls.length), A (j + 1) = (A j && ls[j].cert.ok) := fun j hj => by rw [hA, hA, all_take_succ _ ls j hj]
  have hFN : y ++ linksW ls = F ls.length := by rw [hF, List.take_length]
  have hAN : (ls.all fun l => l.cert.ok) = A ls.length := by rw [hA, List.take_length]
  rw [hFN, hAN]
  clear hFN hAN hF hA
  rw [hF0] at m1
  clear hF0
  have hI1 : [AV.v (.int .i64 (ls.length : Nat))] = I64 [(ls.length : Int)] := rfl
  simp [Mail.av, wrM, hk, hls]
  refine call_intro m1 ?_ ?_
  · simp [wrM, hI1]
  simp [wrM, hI1]
  refine go_up ls.length (fun j (_ : Unit) => True) (fun j _ c => ⟨[(0, .ptr 1000 0 0), (5, .v (.bool (A j))), (21, .sl 103 (Lnks ls)), (22, .v (.int .i64 (ls.length : Nat))), (23, .v (.int .i64 (j : Nat)))],
    [(1000, .var 0 (.node [.row 2000 1 c 0 (F j).length])), (2000, .rows c 1 (B (F j)))], c + 1⟩) () _ (Weak.re0 1000 (by simp [hA0])) trivial ?_ ?_
  · intro j _ c hj _
    have hw : IntKind.i64.wrap ((j : Int) + 1) = ((j + 1 : Nat) : Int) := w64_succ (by omega)
    have hlj := hFl j
    have m2 := lwrite_any (G := G) (F j) ls[j] (hl2 _ (List.getElem_mem hj)) (by omega)
    rw [hFs j hj] at m2
    have e := hAs j hj
    cases hc : ls[j].cert.ok
    · rw [hc] at m2 e
      rw [Bool.and_false] at e
      simp [hj]
      refine call_intro m2 ?_ ?_
      · simp [wrM]
      simp [wrM]
      simp [hw]
      exact ⟨(), _, Weak.re0 1000 (by simp [e]), trivial⟩
    · rw [hc] at m2 e
      rw [Bool.and_true] at e
      simp [hj]
      refine call_intro m2 ?_ ?_
      · simp [wrM]
      simp [wrM]
      simp [hw]
      exact ⟨(), _, Weak.re0 1000 (by simp [e]), trivial⟩
  · intro _ c _
    simp
    refine post_end (.inr rfl) ?_
    simp
theorem list9_meets (bs : Bytes) (m : Mail) (hk : m.kind = 9) (h : m.LimL) (hb : bs.length ≤ 20000000) :
    Meets Try.prog G fn_mail_list [.ptr 1000 0 0, m.av] (wrM 0 bs) true (.v (.bool true)) (wrM 1 (bs ++ piecesF.wr m.pieces)) := by
  refine meets_of_go mix k_mail_list ⟨by simp [wrM], by simp, by simp [wrM]⟩ ?_
  have m1 := wnum_meets (G := G) bs [(m.pieces.length : Int)] (by simp; omega)
  have en : nums [(m.pieces.length : Int)] = be8 (m.pieces.length : Int) := by simp [nums]
  have hy : (bs ++ be8 (m.pieces.length : Int)).length = bs.length + 8 := by rw [List.length_append, be8_length]
  have hbb : bs ++ piecesF.wr m.pieces = bs ++ be8 (m.pieces.length : Int) ++ pcsB m.pieces := by rw [piecesF_wr]; simp [pcsB]
  rw [en] at m1
  rw [hbb]
  generalize bs ++ be8 (m.pieces.length : Int) = y at *
  have hl1 := h.pieces
  have hl3 := h.pcs
  generalize hps : m.pieces = ps at *
  obtain ⟨F, hF⟩ : ∃ F : Nat → Bytes, ∀ i, F i = y ++ pcsB (ps.take i) := ⟨_, fun _ => rfl⟩
  have hF0 : y = F 0 := by rw [hF]; simp [pcsB]
  have hFl : ∀ j, (F j).length ≤ bs.length + 8 + 3000000 := by
    intro j
    have := pcsB_take_le ps j
    rw [hF, List.length_append]
    omega
  have hFs : ∀ j (hj : j < ps.length), F j ++ ps[j].bytes = F (j + 1) := fun j hj => by rw [hF, hF, pcsB_take ps j hj, List.append_assoc]
  have hpl : ∀ j (hj : j < ps.length), ps[j].bytes.length ≤ 3000000 := fun j hj => by
    have h1 := pcsB_take_le ps (j + 1)
    rw [pcsB_take ps j hj, List.length_append] at h1
    omega
  have hFN : y ++ pcsB ps = F ps.length := by rw [hF, List.take_length]
  rw [hFN]
  clear hFN hF
  rw [hF0] at m1
  clear hF0
  have hI1 : [AV.v (.int .i64 (ps.length : Nat))] = I64 [(ps.length : Int)] := rfl
  simp [Mail.av, wrM, hk, hps]
  refine call_intro m1 ?_ ?_
  · simp [wrM, hI1]
  simp [wrM, hI1]
  refine go_up ps.length (fun j (_ : Unit) => True) (fun j _ c => ⟨[(0, .ptr 1000 0 0), (5, .v (.bool true)), (43, .sl 36 (Pcs ps)), (44, .v (.int .i64 (ps.length : Nat))), (45, .v (.int .i64 (j : Nat)))],
    [(1000, .var 0 (.node [.row 2000 1 c 0 (F j).length])), (2000, .rows c 1 (B (F j)))], c + 1⟩) () _ (Weak.re0 1000 (by simp)) trivial ?_ ?_
  · intro j _ c hj _
    have hw : IntKind.i64.wrap ((j : Int) + 1) = ((j + 1 : Nat) : Int) := w64_succ (by omega)
    have hlj := hFl j
    have hpj := hpl j hj
    have hfs := hFs j hj
    generalize hpe : ps[j] = p at *
    rw [Piece.bytes_len] at hpj
    have m2 := wnum_meets (G := G) (F j) [p.at_, p.count, (p.path.length : Int)] (by simp; omega)
    have x1l : (F j ++ nums [p.at_, p.count, (p.path.length : Int)]).length = (F j).length + 24 := by rw [List.length_append, nums_length]; simp
    have m3 := wdigest_meets (G := G) (F j ++ nums [p.at_, p.count, (p.path.length : Int)]) [p.tree] (by rw [x1l]; simp; omega)
    have x2l : (F j ++ nums [p.at_, p.count, (p.path.length : Int)] ++ flatD [p.tree]).length = (F j).length + 56 := by rw [List.length_append, x1l]; simp [flatD]
    have m4 := wdigest_meets (G := G) (F j ++ nums [p.at_, p.count, (p.path.length : Int)] ++ flatD [p.tree]) p.path (by rw [x2l]; omega)
    have x3l : (F j ++ nums [p.at_, p.count, (p.path.length : Int)] ++ flatD [p.tree] ++ flatD p.path).length = (F j).length + 56 + 32 * p.path.length := by rw [List.length_append, x2l, flatD_length]
    have m5 := wtext_meets (G := G) (F j ++ nums [p.at_, p.count, (p.path.length : Int)] ++ flatD [p.tree] ++ flatD p.path) [p.data] (by rw [x3l]; simp [txts]; omega) (by simp)
    have e : F j ++ nums [p.at_, p.count, (p.path.length : Int)] ++ flatD [p.tree] ++ flatD p.path ++ txts [p.data] = F (j + 1) := by
      rw [← hfs]
      simp [Piece.bytes, flatD, txts]
    rw [e] at m5
    generalize F j ++ nums [p.at_, p.count, (p.path.length : Int)] ++ flatD [p.tree] ++ flatD p.path = x3 at *
    generalize F j ++ nums [p.at_, p.count, (p.path.length : Int)] ++ flatD [p.tree] = x2 at *
    generalize F j ++ nums [p.at_, p.count, (p.path.length : Int)] = x1 at *
    have hS1 : [AV.v (.string (mkS p.data))] = Strs [p.data] := rfl
    simp [hj, hpe, Piece.av]
    refine call_intro m2 ?_ ?_
    · simp [wrM, I64_3]
    simp [wrM, I64_3]
    refine call_intro m3 ?_ ?_
    · simp [wrM, Dgs_1', dv]
    simp [wrM, Dgs_1', dv]
    refine call_intro m4 ?_ ?_
    · simp [wrM]
    simp [wrM]
    refine call_intro m5 ?_ ?_
    · simp [wrM, hS1]
    simp [wrM, hS1]
    simp [hw]
    exact ⟨(), _, Weak.re0 1000 (by simp), trivial⟩
  · intro _ c _
    simp
    refine post_end (.inr rfl) ?_
    simp

/-- What Encode can bear. -/
structure Mail.Lim (m : Mail) : Prop where
  l : m.LimL
  plan : m.plan.blk.bytes.length ≤ 3000000
  planq : m.plan.blk.qs.length ≤ 1000
  req : m.req.bytes.length ≤ 3000000
  rep : m.rep.bytes.length ≤ 3000000
  repn : m.rep.vals.length ≤ 1000000
  blk : m.blk.bytes.length ≤ 3000000
  blkq : m.blk.qs.length ≤ 1000
  votes : m.cert.votes.length ≤ 1000
/-- What is written of a mail's body. -/
def Mail.bodyW (m : Mail) : Bytes :=
  if m.kind = 1 then (if m.plan.sig.ok = true then planF.wr m.plan else []) else if m.kind = 2 then (if m.vote.sig.ok = true then voteF.wr m.vote else []) else if m.kind = 3 then m.req.bytes else if m.kind = 4 then be8 m.height ++ m.rep.bytes
  else if m.kind = 5 then (if m.cert.ok = true then m.blk.bytes ++ m.cert.bytes else m.blk.bytes)
  else if m.kind = 6 then be8 m.height else if m.kind = 8 then be8 (m.links.length : Int) ++ linksW m.links else if m.kind = 9 then (if m.cert.ok = true then m.blk.bytes ++ m.cert.bytes ++ piecesF.wr m.pieces else m.blk.bytes) else []
theorem body_meets (bs : Bytes) (m : Mail) (h : m.Lim) (hb : bs.length ≤ 1000) : Meets Try.prog G fn_mail_body [.ptr 1000 0 0, m.av] (wrM 0 bs) true (.v (.bool m.ok)) (wrM 1 (bs ++ m.bodyW)) := by
  refine meets_of_go mix k_mail_body ⟨by simp [wrM], by simp, by simp [wrM]⟩ ?_
  by_cases k1 : m.kind = 1
  · have eo : m.ok = m.plan.sig.ok := by simp [Mail.ok, k1]
    have eb : m.bodyW = if m.plan.sig.ok = true then planF.wr m.plan else [] := by simp [Mail.bodyW, k1]
    rw [eo, eb]
    have m0 := vwplan_bad (G := G) bs m.plan
    have m1 := fun hh => vwplan_meets (G := G) bs m.plan hh (by have := h.plan; omega) (by have := h.planq; omega)
    cases hk : m.plan.sig.ok
    · rw [if_neg (by simp), List.append_nil]
      have m0 := m0 hk
      simp [wrM, Mail.av, k1]
      refine call_intro m0 ?_ ?_
      · simp [wrM]
      simp [wrM]
      refine post_end (.inr rfl) ?_
      simp
    · rw [if_pos rfl]
      have m1 := m1 hk
      generalize bs ++ planF.wr m.plan = y at *
      simp [wrM, Mail.av, k1]
      refine call_intro m1 ?_ ?_
      · simp [wrM]
      simp [wrM]
      refine post_end (.inr rfl) ?_
      simp
  by_cases k2 : m.kind = 2
  · have eo : m.ok = m.vote.sig.ok := by simp [Mail.ok, k2]
    have eb : m.bodyW = if m.vote.sig.ok = true then voteF.wr m.vote else [] := by simp [Mail.bodyW, k2]
    rw [eo, eb]
    have m0 := vwrite_bad (G := G) bs m.vote
    have m1 := fun hh => vwrite_meets (G := G) bs m.vote hh (by omega)
    cases hk : m.vote.sig.ok
    · rw [if_neg (by simp), List.append_nil]
      have m0 := m0 hk
      simp [wrM, Mail.av, k1, k2]
      refine call_intro m0 ?_ ?_
      · simp [wrM]
      simp [wrM]
      refine post_end (.inr rfl) ?_
      simp
    · rw [if_pos rfl]
      have m1 := m1 hk
      generalize bs ++ voteF.wr m.vote = y at *
      simp [wrM, Mail.av, k1, k2]
      refine call_intro m1 ?_ ?_
      · simp [wrM]
      simp [wrM]
      refine post_end (.inr rfl) ?_
      simp
  by_cases k3 : m.kind = 3
  · have eo : m.ok = true := by simp [Mail.ok, k3]
    have eb : m.bodyW = m.req.bytes := by simp [Mail.bodyW, k3]
    rw [eo, eb]
    have m1 := qwrite_meets (G := G) bs m.req (by have := h.req; omega)
    generalize bs ++ m.req.bytes = y at *
    simp [wrM, Mail.av, k1, k2, k3]
    refine call_intro m1 ?_ ?_
    · simp [wrM]
    simp [wrM]
    refine post_end (.inr rfl) ?_
    simp
  by_cases k4 : m.kind = 4
  · have eo : m.ok = true := by simp [Mail.ok, k4]
    have eb : bs ++ m.bodyW = bs ++ be8 m.height ++ m.rep.bytes := by simp [Mail.bodyW, k4]
    rw [eo, eb]
    have m1 := wnum_meets (G := G) bs [m.height] (by simp; omega)
    have en : nums [m.height] = be8 m.height := by simp [nums]
    rw [en] at m1
    have m2 := qwrep_meets (G := G) (bs ++ be8 m.height) m.rep (by have := h.rep; rw [List.length_append, be8_length]; omega) h.repn
    generalize bs ++ be8 m.height ++ m.rep.bytes = y2 at *
    generalize bs ++ be8 m.height = y1 at *
    have hI1 : [AV.v (.int .i64 m.height)] = I64 [m.height] := rfl
    simp [wrM, Mail.av, k1, k2, k3, k4]
    refine call_intro m1 ?_ ?_
    · simp [wrM, hI1]
    simp [wrM, hI1]
    refine call_intro m2 ?_ ?_
    · simp [wrM]
    simp [wrM]
    refine post_end (.inr rfl) ?_
    simp
  by_cases k5 : m.kind = 5
  · have eo : m.ok = m.cert.ok := by simp [Mail.ok, k5]
    have eb : m.bodyW = if m.cert.ok = true then m.blk.bytes ++ m.cert.bytes else m.blk.bytes := by simp [Mail.bodyW, k5]
    rw [eo, eb]
    have hbl := h.blk
    have m1 := bwrite_meets (G := G) bs m.blk (by omega) (by have := h.blkq; omega)
    have m0 := fun hh => twrite_bad (G := G) (bs ++ m.blk.bytes) m.cert hh h.votes
    have m2 := fun hh => twrite_meets (G := G) (bs ++ m.blk.bytes) m.cert hh h.votes (by rw [List.length_append]; omega)
    cases hk : m.cert.ok
    · rw [if_neg (by simp)]
      have m0 := m0 hk
      clear m2
      generalize bs ++ m.blk.bytes = y at *
      simp [wrM, Mail.av, k1, k2, k3, k4, k5]
      refine call_intro m1 ?_ ?_
      · simp [wrM]
      simp [wrM]
      refine call_intro m0 ?_ ?_
      · simp [wrM]
      simp [wrM]
      refine post_end (.inr rfl) ?_
      simp
    · rw [if_pos rfl, ← List.append_assoc]
      have m2 := m2 hk
      clear m0
      generalize bs ++ m.blk.bytes ++ m.cert.bytes = y2 at *
      generalize bs ++ m.blk.bytes = y at *
      simp [wrM, Mail.av, k1, k2, k3, k4, k5]
      refine call_intro m1 ?_ ?_
      · simp [wrM]
      simp [wrM]
      refine call_intro m2 ?_ ?_
      · simp [wrM]
      simp [wrM]
      refine post_end (.inr rfl) ?_
      simp
  by_cases k6 : m.kind = 6
  · have eo : m.ok = true := by simp [Mail.ok, k6]
    have eb : bs ++ m.bodyW = bs ++ be8 m.height := by simp [Mail.bodyW, k6]
    rw [eo, eb]
    have m1 := wnum_meets (G := G) bs [m.height] (by simp; omega)
    have en : nums [m.height] = be8 m.height := by simp [nums]
    rw [en] at m1
    generalize bs ++ be8 m.height = y1 at *
    have hI1 : [AV.v (.int .i64 m.height)] = I64 [m.height] := rfl
    simp [wrM, Mail.av, k1, k2, k3, k4, k5, k6]
    refine call_intro m1 ?_ ?_
    · simp [wrM, hI1]
    simp [wrM, hI1]
    refine post_end (.inr rfl) ?_
    simp
  by_cases k8 : m.kind = 8
  · have eo : m.ok = m.links.all (fun l => l.cert.ok) := by simp [Mail.ok, k8]
    have eb : bs ++ m.bodyW = bs ++ be8 (m.links.length : Int) ++ linksW m.links := by simp [Mail.bodyW, k8]
    rw [eo, eb]
    have m1 := list8_meets (G := G) bs m k8 h.l (by omega)
    generalize bs ++ be8 (m.links.length : Int) ++ linksW m.links = y at *
    generalize hall : (m.links.all fun l => l.cert.ok) = ok at *
    have hav : m.av = .node [.v (.int .i64 m.kind), m.plan.av, m.vote.av, m.req.av, m.rep.avS, .v (.int .i64 m.height), m.blk.avS, m.cert.av, .sl 103 (Lnks m.links), .sl 36 (Pcs m.pieces)] := rfl
    simp [wrM, Mail.av, k1, k2, k3, k4, k5, k6, k8]
    refine call_intro m1 ?_ ?_
    · simp [wrM, Mail.av, k8]
    simp [wrM, Mail.av, k8]
    refine post_end (.inr rfl) ?_
    simp
  by_cases k9 : m.kind = 9
  · have eo : m.ok = m.cert.ok := by simp [Mail.ok, k9]
    have eb : m.bodyW = if m.cert.ok = true then m.blk.bytes ++ m.cert.bytes ++ piecesF.wr m.pieces else m.blk.bytes := by simp [Mail.bodyW, k9]
    rw [eo, eb]
    have hbl := h.blk
    have m1 := bwrite_meets (G := G) bs m.blk (by omega) (by have := h.blkq; omega)
    have m0 := fun hh => twrite_bad (G := G) (bs ++ m.blk.bytes) m.cert hh h.votes
    have m2 := fun hh => twrite_meets (G := G) (bs ++ m.blk.bytes) m.cert hh h.votes (by rw [List.length_append]; omega)
    cases hk : m.cert.ok
    · rw [if_neg (by simp)]
      have m0 := m0 hk
      clear m2
      generalize bs ++ m.blk.bytes = y at *
      simp [wrM, Mail.av, k1, k2, k3, k4, k5, k6, k8, k9]
      refine call_intro m1 ?_ ?_
      · simp [wrM]
      simp [wrM]
      refine call_intro m0 ?_ ?_
      · simp [wrM]
      simp [wrM]
      refine post_end (.inr rfl) ?_
      simp
    · rw [if_pos rfl, ← List.append_assoc, ← List.append_assoc]
      have m2 := m2 hk
      clear m0
      have hcl := m.cert.bytes_len hk
      have hv := h.votes
      have m3 := list9_meets (G := G) (bs ++ m.blk.bytes ++ m.cert.bytes) m k9 h.l (by rw [List.length_append, List.length_append]; omega)
      generalize bs ++ m.blk.bytes ++ m.cert.bytes ++ piecesF.wr m.pieces = y3 at *
      generalize bs ++ m.blk.bytes ++ m.cert.bytes = y2 at *
      generalize bs ++ m.blk.bytes = y at *
      simp [wrM, Mail.av, k1, k2, k3, k4, k5, k6, k8, k9]
      refine call_intro m1 ?_ ?_
      · simp [wrM]
      simp [wrM]
      refine call_intro m2 ?_ ?_
      · simp [wrM]
      simp [wrM]
      refine call_intro m3 ?_ ?_
      · simp [wrM, Mail.av, k9]
      simp [wrM, Mail.av, k9]
      refine post_end (.inr rfl) ?_
      simp
  have eo : m.ok = true := by simp [Mail.ok, k1, k2, k3, k4, k5, k6, k8, k9]
  have eb : m.bodyW = [] := by simp [Mail.bodyW, k1, k2, k3, k4, k5, k6, k8, k9]
  rw [eo, eb, List.append_nil]
  simp [wrM, Mail.av, k1, k2, k3, k4, k5, k6, k8, k9]
  refine post_end (.inr rfl) ?_
  simp

theorem Mail.bodyW_ok {m : Mail} (h : m.ok = true) : m.bodyW = m.body := by
  unfold Mail.bodyW Mail.body
  unfold Mail.ok at h
  by_cases k1 : m.kind = 1
  · simp only [k1, if_true] at h ⊢; rw [if_pos h]
  simp only [k1, if_false] at h ⊢
  by_cases k2 : m.kind = 2
  · simp only [k2, if_true] at h ⊢; rw [if_pos h]
  simp only [k2, if_false] at h ⊢
  by_cases k5 : m.kind = 5
  · simp only [k5, if_true] at h ⊢
    rw [if_pos h]
  simp only [k5, if_false] at h ⊢
  by_cases k8 : m.kind = 8
  · simp only [k8, if_true] at h ⊢
    rw [linksF_wr, linksW_ok m.links h]
  simp only [k8, if_false] at h ⊢
  by_cases k9 : m.kind = 9
  · simp only [k9, if_true] at h ⊢
    rw [if_pos h]
  simp only [k9, if_false] at h ⊢
theorem Mail.body_len {m : Mail} (h : m.Lim) (ho : m.ok = true) : m.body.length ≤ 20000000 := by
  rw [← Mail.bodyW_ok ho]
  have := h.plan
  have := h.req
  have := h.rep
  have := h.blk
  have := h.l.linksW
  have := h.l.pcs
  have hv := h.votes
  unfold Mail.bodyW
  split
  · split
    · rename_i hk
      rw [planF_wr, List.length_append]
      have h2 : m.plan.head.length = 40 + m.plan.blk.bytes.length := by simp [Plan.head, nums_length]
      simp only [Sig.ok, decide_eq_true_eq] at hk
      rw [Sig.bytes_len]
      omega
    · simp
  split
  · split
    · rename_i hk
      have := voteF_len m.vote hk
      omega
    · simp
  split
  · omega
  split
  · rw [List.length_append, be8_length]; omega
  split
  · split
    · rename_i hk
      have := m.cert.bytes_len hk
      rw [List.length_append]; omega
    · omega
  split
  · rw [be8_length]; omega
  split
  · rw [List.length_append, be8_length]; omega
  split
  · split
    · rename_i hk
      have := m.cert.bytes_len hk
      have e : (m.pieces.flatMap Piece.bytes).length = (pcsB m.pieces).length := rfl
      rw [piecesF_wr, List.length_append, List.length_append, List.length_append, be8_length, e]; omega
    · omega
  · simp
theorem encode_meets (m : Mail) (h : m.Lim) : Meets Try.prog G fn_mail_Encode [m.av] [] false (.tup [.sl 1 (B (encB m)), .v (.int .i64 (encE m))]) [] := by
  refine meets_of_go mix k_mail_Encode ⟨by simp, by simp, by simp⟩ ?_
  have m1 := wnum_meets (G := G) [] [m.kind] (by simp)
  have en : nums [m.kind] = be8 m.kind := by simp [nums]
  rw [List.nil_append, en] at m1
  have m2 := body_meets (G := G) (be8 m.kind) m h (by simp)
  have hI1 : [AV.v (.int .i64 m.kind)] = I64 [m.kind] := rfl
  cases ho : m.ok
  · have e1 : encE m = 1 := by simp [encE, ho]
    have e2 : encB m = [] := by simp [encB, e1]
    rw [ho] at m2
    rw [e1, e2]
    generalize be8 m.kind ++ m.bodyW = y at *
    simp [Mail.av]
    refine call_intro m1 ?_ ?_
    · simp [wrM, hI1]
    simp [wrM, hI1]
    refine call_intro m2 ?_ ?_
    · simp [wrM, Mail.av]
    simp [wrM, Mail.av]
    refine post_end (.inr rfl) ?_
    simp
  · rw [ho, Mail.bodyW_ok ho] at m2
    have hy : be8 m.kind ++ m.body = m.bytes := rfl
    rw [hy] at m2
    have hyl : m.bytes.length ≤ 20000008 := by
      have := Mail.body_len h ho
      rw [← hy, List.length_append, be8_length]
      omega
    have m3 := bytes_frz (G := G) m.bytes (by omega)
    by_cases hl : 262144 < m.bytes.length
    · have hli : (262144 : Int) < (m.bytes.length : Nat) := by omega
      have e1 : encE m = 3 := by simp [encE, ho, hl]
      have e2 : encB m = [] := by simp [encB, e1]
      rw [e1, e2]
      generalize m.bytes = y at *
      simp [Mail.av]
      refine call_intro m1 ?_ ?_
      · simp [wrM, hI1]
      simp [wrM, hI1]
      refine call_intro m2 ?_ ?_
      · simp [wrM, Mail.av]
      simp [wrM, Mail.av]
      refine call_intro m3 ?_ ?_
      · simp [wrM]
      simp [wrM, hl, hli]
      refine post_end (.inr rfl) ?_
      simp
    have hli : ¬ (262144 : Int) < (m.bytes.length : Nat) := by omega
    have m4 := decode_meets (G := G) m.bytes (by omega)
    have e1 : encE m = if decE m.bytes = 0 then 0 else 1 := by unfold encE; rw [if_neg (by simp [ho]), if_neg hl]
    have e2 : encB m = if encE m = 0 then m.bytes else [] := rfl
    rw [e2, e1]
    clear e1 e2
    generalize m.bytes = y at *
    generalize decM y = z at *
    generalize decE y = e at *
    simp [Mail.av]
    refine call_intro m1 ?_ ?_
    · simp [wrM, hI1]
    simp [wrM, hI1]
    refine call_intro m2 ?_ ?_
    · simp [wrM, Mail.av]
    simp [wrM, Mail.av]
    refine call_intro m3 ?_ ?_
    · simp [wrM]
    simp [wrM, hl, hli]
    refine call_intro m4 ?_ ?_
    · simp
    simp
    by_cases he : e = 0
    · simp [he]
      refine post_end (.inr rfl) ?_
      simp [he]
    · simp [he]
      refine post_end (.inr rfl) ?_
      simp [he]
end Go.Proofs.Ytglkfbhjimnboaa.WL

end
section
/-
  CHAPTER 20: contracts: mails are the same as themselves; what is great.
-/
namespace Go.Proofs.Ytglkfbhjimnboaa.WL
open Go
set_option maxHeartbeats 8000000
variable {G : Nat → Option AV}
attribute [local irreducible] sha
attribute [local irreducible] Rd.sig Rd.sig' Rd.blk Rd.blk' Rd.inn Rd.inn' Rd.dg Rd.dg' Rd.rep Rd.rep' Rd.text Rd.text' Rd.req Rd.req' repR decM decE

theorem pcsame_refl (p : Piece) (h : p.path.length ≤ 1000) : Meets Try.prog G fn_r11_Same [p.av, p.av] [] true (.v (.bool true)) [] := by
  refine meets_of_go mix k_r11_Same ⟨by simp, by simp, by simp⟩ ?_
  have m1 := rsame_meets (G := G) p.path p.path (by omega)
  rw [decide_eq_true rfl] at m1
  simp [Piece.av, dv]
  refine call_intro m1 ?_ ?_
  · simp
  simp
  refine post_end (.inr rfl) ?_
  simp
structure Mail.Small (m : Mail) : Prop where
  vote : m.vote.sig.small
  plan : m.plan.sig.small
  planq : m.plan.blk.qs.length ≤ 1000
  vals : m.rep.vals.length ≤ 1000
  blkq : m.blk.qs.length ≤ 1000
  cert : m.cert.small
  linksn : m.links.length ≤ 10000
  links : ∀ l ∈ m.links, l.small
  piecesn : m.pieces.length ≤ 10000
  pieces : ∀ p ∈ m.pieces, p.path.length ≤ 1000
theorem cmp_req_refl (q : Req) : cmpA (.st [.int .i64, .int .i64, .st [.int .i64, .str, .str, .str, .st [.int .i64, .int .i64, .int .i64, .st [.ints .u8 32, .int .i64]]]]) q.av q.av = some true := by
  have := cmp_reqs q q
  rw [decide_eq_true rfl] at this
  exact this
theorem msame_refl (m : Mail) (h : m.Small) : Meets Try.prog G fn_r20_Same [m.av, m.av] [] true (.v (.bool true)) [] := by
  refine meets_of_go mix k_r20_Same ⟨by simp, by simp, by simp⟩ ?_
  have m1 := qsame_refl (G := G) m.rep h.vals
  have m2 := vsame_refl (G := G) m.vote h.vote
  have m3 := psame_refl (G := G) m.plan h.plan h.planq
  have m4 := bsame_refl (G := G) m.blk h.blkq
  have m5 := tsame_refl (G := G) m.cert h.cert
  have hc := cmp_req_refl m.req
  have hln := h.linksn
  have hl := h.links
  have hpn := h.piecesn
  have hp := h.pieces
  generalize hls : m.links = ls at *
  generalize hps : m.pieces = ps at *
  simp [Mail.av, hc, hls, hps]
  refine call_intro m1 ?_ ?_
  · simp
  simp [hc]
  refine call_intro m2 ?_ ?_
  · simp
  simp
  refine call_intro m3 ?_ ?_
  · simp
  simp
  refine call_intro m4 ?_ ?_
  · simp
  simp
  refine call_intro m5 ?_ ?_
  · simp
  simp
  refine go_up ls.length (fun j (_ : Unit) => True) (fun j _ c => ⟨[(2, .ptr 2 c 0), (3, .ptr 3 c 0), (84, .v (.int .i64 (ls.length : Nat))), (85, .v (.int .i64 (j : Nat)))], [(2, .var c m.av), (3, .var c m.av)], c + 1⟩) () _ (Weak.re (by simp [Mail.av, hls, hps])) trivial ?_ ?_
  · intro j _ c hj _
    have hw : IntKind.i64.wrap ((j : Int) + 1) = ((j + 1 : Nat) : Int) := w64_succ (by omega)
    have m6 := lsame_refl (G := G) ls[j] (hl _ (List.getElem_mem hj))
    simp [hj, Mail.av, hls, hps]
    refine call_intro m6 ?_ ?_
    · simp
    simp
    simp [hw]
    exact ⟨(), _, Weak.re (by simp [Mail.av, hls, hps]), trivial⟩
  · intro _ c _
    simp [Mail.av, hls, hps]
    refine go_up ps.length (fun j (_ : Unit) => True) (fun j _ c => ⟨[(2, .ptr 2 c 0), (3, .ptr 3 c 0), (103, .v (.int .i64 (ps.length : Nat))), (104, .v (.int .i64 (j : Nat)))], [(2, .var c m.av), (3, .var c m.av)], c + 1⟩) () _ (Weak.re (by simp [Mail.av, hls, hps])) trivial ?_ ?_
    · intro j _ c hj _
      have hw : IntKind.i64.wrap ((j : Int) + 1) = ((j + 1 : Nat) : Int) := w64_succ (by omega)
      have m6 := pcsame_refl (G := G) ps[j] (hp _ (List.getElem_mem hj))
      simp [hj, Mail.av, hls, hps]
      refine call_intro m6 ?_ ?_
      · simp
      simp
      simp [hw]
      exact ⟨(), _, Weak.re (by simp [Mail.av, hls, hps]), trivial⟩
    · intro _ c _
      simp
      refine post_end (.inr rfl) ?_
      simp
theorem zero_small : Mail.zero.Small := by
  refine ⟨?_, ?_, ?_, ?_, ?_, ?_, ?_, ?_, ?_, ?_⟩ <;> simp [Mail.zero, Vote.zero, Plan.zero, Sig.zero, Sig.small, Blk.zero, Rep.zero, Cert.zero, Cert.small]
theorem repR_alln {α : Type} {F : Fmt α} {p : α → Prop} (h : ∀ r, p (F.rd r)) (r : Rd) (n : Nat) : ∀ a ∈ (repR (fun _ => F) r n).1, p a := repR_all h r n
theorem links_small (r : Rd) : (linksF.rd r).length ≤ 10000 ∧ ∀ l ∈ linksF.rd r, l.small := by
  rw [linksF_rd]
  refine ⟨?_, repR_all link_small _ _⟩
  rw [repR_length]
  have := count1024 r
  omega
theorem piece_small (r : Rd) : (pieceF.rd r).path.length ≤ 1000 := by
  rw [pieceF_rd]
  have := (pcN_eq r).2
  show (((((r.inn' 0 1024).inn' 0 1024).inn' 0 16).dg').ds r.pcN).length ≤ 1000
  rw [Rd.ds_length]
  omega
theorem pieces_small (r : Rd) : (piecesF.rd r).length ≤ 10000 ∧ ∀ p ∈ piecesF.rd r, p.path.length ≤ 1000 := by
  rw [piecesF_rd]
  refine ⟨?_, repR_all piece_small _ _⟩
  rw [repR_length]
  have := count1024 r
  omega
theorem body_small (k : Int) (r : Rd) : (bodyRd k r).Small := by
  have z := zero_small
  unfold bodyRd
  split
  · exact ⟨z.vote, (plan_small r).1, (plan_small r).2, z.vals, z.blkq, z.cert, z.linksn, z.links, z.piecesn, z.pieces⟩
  split
  · exact ⟨vote_small r, z.plan, z.planq, z.vals, z.blkq, z.cert, z.linksn, z.links, z.piecesn, z.pieces⟩
  split
  · exact ⟨z.vote, z.plan, z.planq, z.vals, z.blkq, z.cert, z.linksn, z.links, z.piecesn, z.pieces⟩
  split
  · exact ⟨z.vote, z.plan, z.planq, rep_small _, z.blkq, z.cert, z.linksn, z.links, z.piecesn, z.pieces⟩
  split
  · exact ⟨z.vote, z.plan, z.planq, z.vals, blk_small r, cert_small _, z.linksn, z.links, z.piecesn, z.pieces⟩
  split
  · exact ⟨z.vote, z.plan, z.planq, z.vals, z.blkq, z.cert, z.linksn, z.links, z.piecesn, z.pieces⟩
  split
  · exact ⟨z.vote, z.plan, z.planq, z.vals, z.blkq, z.cert, (links_small r).1, (links_small r).2, z.piecesn, z.pieces⟩
  split
  · exact ⟨z.vote, z.plan, z.planq, z.vals, blk_small r, cert_small _, z.linksn, z.links, (pieces_small _).1, (pieces_small _).2⟩
  · exact ⟨z.vote, z.plan, z.planq, z.vals, z.blkq, z.cert, z.linksn, z.links, z.piecesn, z.pieces⟩
theorem dec_small (b : Bytes) : (decM b).Small := by
  unfold decM
  split
  · exact zero_small
  · split
    · exact body_small _ _
    · exact zero_small

def Sig.greatF' (s : Sig) : Bool := decide (200 < s.op.length) || decide (200 < s.sh.length) || decide (200 < s.path.length)
def Lnk.greatL (l : Lnk) : Bool := decide (11 < l.cert.votes.length) || decide (20 < l.conf.ms.length) || l.blk.great 4096
def pcSum (ps : List Piece) : Nat := (ps.map fun p => p.data.length + 32 * p.path.length).sum
theorem pcSum_snoc (ps : List Piece) (j : Nat) (h : j < ps.length) : pcSum (ps.take (j + 1)) = pcSum (ps.take j) + (ps[j].data.length + 32 * ps[j].path.length) := by
  rw [List.take_succ_eq_append_getElem h]
  unfold pcSum
  rw [List.map_append, List.sum_append]
  simp only [List.map_cons, List.map_nil, List.sum_cons, List.sum_nil, Nat.add_zero]
theorem pcSum_le (ps : List Piece) (j : Nat) : pcSum (ps.take j) ≤ pcSum ps := by
  conv => rhs; rw [← List.take_append_drop j ps]
  simp only [pcSum, List.map_append, List.sum_append]
  omega
def Mail.all (m : Mail) : List Vote := [m.vote, { Vote.zero with sig := m.plan.sig }] ++ m.cert.votes ++ m.links.flatMap (fun l => l.cert.votes)
def Mail.total (m : Mail) : Nat := m.req.key.length + m.req.val.length + m.req.old.length + lenSum m.rep.vals + pcSum m.pieces
def Mail.great0 (m : Mail) : Bool := m.blk.great 4096 || m.plan.blk.great 4096 || decide (11 < m.cert.votes.length) || decide (3 < m.links.length) || decide (40 < m.pieces.length) || decide (400 < m.rep.vals.length)
def Mail.greatM (m : Mail) : Bool := m.great0 || (m.links.any Lnk.greatL || (m.all.any (fun v => v.sig.greatF') || decide (16384 < m.total)))
end Go.Proofs.Ytglkfbhjimnboaa.WL

end
