/- Texts put together: F13, F18, P02, F20, T05, T09, T12, T13. -/
import Derived.Test.YtbmdaaehogpeeaaDoorWm5
section
/-
  FORMATS of signatures, requests, replies, blocks, votes, plans, configurations, words, links.
-/
namespace Go.Proofs.YtbmdaaehogpeeaaDoor.WL
open Go
attribute [local irreducible] sha

theorem Fmt.Law.same {α : Type} {F G : Fmt α} (h : F.Law) (h1 : ∀ r, G.rd r = F.rd r) (h2 : ∀ r, G.rd' r = F.rd' r) (h3 : ∀ a, G.fits a → G.wr a = F.wr a) (h4 : ∀ a, G.good a ↔ F.good a) (h5 : ∀ a, G.fits a → F.fits a) (h6 : ∀ a, G.good a → G.fits a) : G.Law where
  fault := by rw [h2]; exact h.fault
  flt r hr := by rw [h2]; exact h.flt r hr
  back pre y a hg := by rw [h3 a (h6 a hg), h1, h2]; exact h.back pre y a ((h4 a).1 hg)
  one r hb := by
    rw [h2] at hb ⊢
    have := h.one r hb
    rw [h1, h4, h3 _ (h6 _ ((h4 _).2 this.2.2.2))]
    exact this
  fit a hg := h6 a hg
  inj a b x y ha hb hx := by rw [h3 a ha, h3 b hb] at hx; exact h.inj a b x y (h5 a ha) (h5 b hb) hx

/-! So many alike. -/
theorem repW_const {α : Type} (F : Fmt α) : ∀ (l p : List α), repW (fun _ => F) p l = l.flatMap F.wr
  | [], _ => rfl
  | a :: l, p => by simp [repW, repW_const F l]
theorem repG_const {α : Type} (F : Fmt α) : ∀ (l p : List α), repG (fun _ => F) p l ↔ ∀ a ∈ l, F.good a
  | [], _ => by simp [repG]
  | a :: l, p => by simp [repG, repG_const F l]
theorem repT_const {α : Type} (F : Fmt α) : ∀ (l p : List α), repT (fun _ => F) p l ↔ ∀ a ∈ l, F.fits a
  | [], _ => by simp [repT]
  | a :: l, p => by simp [repT, repT_const F l]
theorem repR_tx (r : Rd) : ∀ n, repR (fun _ => textF 1024) r n = (r.tx n, r.tx' n)
  | 0 => rfl
  | n + 1 => by simp only [repR, repR_tx r n]; rfl

/-! Signatures. -/
def Sig.Fits (s : Sig) : Prop := W64 s.leaf ∧ s.op.length = 32 ∧ s.sh.length = 32 ∧ s.path.length ≤ 6
def sigF : Fmt Sig := ⟨Rd.sig, Rd.sig', Sig.bytes, Sig.Fits, Sig.Fits⟩
/-! Requests. -/
/-! Replies. -/
def replyR : Fmt (Int × Int × Int × List Bytes) := seqF (inF 1 64) fun _ => seqF (inF 1 1099511627776) fun _ => seqF (inF 0 1024) fun _ => cntF 0 256 (fun _ => textF 1024)
theorem replyR_law : replyR.Law := seqF_law (inF_law _ _) fun _ => seqF_law (inF_law _ _) fun _ => seqF_law (inF_law _ _) fun _ => cntF_law (by omega) (fun _ => textF_law _)
def replyM : Fmt Rep := zeroF (mapF replyR (fun x => ⟨x.1, x.2.1, x.2.2.1, x.2.2.2⟩) (fun a => (a.client, a.num, a.code, a.vals))) Rep.zero
theorem replyM_law : replyM.Law := zeroF_law _ (mapF_law replyR_law (fun _ => rfl) (fun _ _ => rfl))
def Rep.Good (a : Rep) : Prop := a.Fits ∧ (1 ≤ a.client ∧ a.client ≤ 64) ∧ (1 ≤ a.num ∧ a.num ≤ 1099511627776) ∧ (0 ≤ a.code ∧ a.code ≤ 1024) ∧ a.vals.length ≤ 256 ∧ ∀ v ∈ a.vals, v.length ≤ 1024
def replyF : Fmt Rep := ⟨Rd.rep, Rd.rep', Rep.bytes, Rep.Good, Rep.Fits⟩
theorem replyF_law : replyF.Law := by
  have hrd' : ∀ r : Rd, r.rep' = replyM.rd' r := fun r => by
    show _ = (repR (fun _ => textF 1024) r.p4 r.repN).2
    rw [repR_tx]; rfl
  refine replyM_law.same (fun r => ?_) hrd' (fun a ha => ?_) (fun a => ?_) (fun a ha => ?_) (fun _ h => h.1)
  · show r.rep = if (replyM.rd' r).bad = true then Rep.zero else _
    rw [← hrd']
    unfold Rd.rep
    congr 1
    show r.rep0 = ⟨r.inn 1 64, r.p1.inn 1 1099511627776, r.p2.inn 0 1024, (repR (fun _ => textF 1024) r.p4 r.repN).1⟩
    rw [repR_tx]; rfl
  · show a.bytes = be8 a.client ++ (be8 a.num ++ (be8 a.code ++ (be8 (a.vals.length : Int) ++ repW (fun _ => textF 1024) [] a.vals)))
    rw [repW_const]
    simp [Rep.bytes, nums, txts, textF]
  · show a.Good ↔ (W64 a.client ∧ 1 ≤ a.client ∧ a.client ≤ 64) ∧ (W64 a.num ∧ 1 ≤ a.num ∧ a.num ≤ 1099511627776) ∧ (W64 a.code ∧ 0 ≤ a.code ∧ a.code ≤ 1024) ∧ (W64 (a.vals.length : Int) ∧ (0 : Int) ≤ a.vals.length ∧ (a.vals.length : Int) ≤ 256) ∧ (a.vals.length = (a.vals.length : Int).toNat ∧ repG (fun _ => textF 1024) [] a.vals)
    rw [repG_const]
    constructor
    · rintro ⟨hf, h1, h2, h3, h4, h5⟩
      refine ⟨⟨hf.client, h1⟩, ⟨hf.num, h2⟩, ⟨hf.code, h3⟩, ⟨by unfold W64; omega, by omega, by omega⟩, by omega, fun v hv => ⟨hf.vals v hv, ?_⟩⟩
      have := h5 v hv
      omega
    · rintro ⟨⟨f1, h1⟩, ⟨f2, h2⟩, ⟨f3, h3⟩, ⟨_, _, h4⟩, _, h5⟩
      refine ⟨⟨f1, f2, f3, by omega, fun v hv => (h5 v hv).1⟩, h1, h2, h3, by omega, fun v hv => ?_⟩
      have := (h5 v hv).2
      omega
  · show W64 a.client ∧ W64 a.num ∧ W64 a.code ∧ W64 (a.vals.length : Int) ∧ (a.vals.length = (a.vals.length : Int).toNat ∧ repT (fun _ => textF 1024) [] a.vals)
    rw [repT_const]
    exact ⟨ha.client, ha.num, ha.code, w64_len ha.len, by omega, ha.vals⟩

/-! Blocks. -/
def blkF : Fmt Blk := ⟨Rd.blk, Rd.blk', Blk.bytes, fun b => b.Fits ∧ b.good = true, Blk.Fits⟩
/-! Votes. -/
section
attribute [local irreducible] Rd.sig Rd.sig' Rd.blk Rd.blk' Rd.inn Rd.inn' Rd.dg Rd.dg' repR
structure Vote where
  kind : Int
  epoch : Int
  height : Int
  round : Int
  dg : Dg
  src : Int
  sig : Sig
def Vote.zero : Vote := ⟨0, 0, 0, 0, Dg.zero, 0, Sig.zero⟩
def voteR : Fmt (Int × Int × Int × Int × Int × Dg × Sig) := seqF (inF 1 2) fun _ => seqF (inF 0 1073741824) fun _ => seqF (inF 1 1024) fun _ => seqF (inF 0 1024) fun _ => seqF (inF 1 63) fun _ => seqF dgF fun _ => sigF
def voteF : Fmt Vote := zeroF (mapF voteR (fun x => ⟨x.1, x.2.1, x.2.2.1, x.2.2.2.1, x.2.2.2.2.2.1, x.2.2.2.2.1, x.2.2.2.2.2.2⟩) (fun v => (v.kind, v.epoch, v.height, v.round, v.src, v.dg, v.sig))) Vote.zero
def Vote.head (v : Vote) : Bytes := nums [v.kind, v.epoch, v.height, v.round, v.src] ++ v.dg.bs
theorem voteF_wr (v : Vote) : voteF.wr v = v.head ++ v.sig.bytes := by
  show be8 v.kind ++ (be8 v.epoch ++ (be8 v.height ++ (be8 v.round ++ (be8 v.src ++ (v.dg.bs ++ v.sig.bytes))))) = _
  simp [Vote.head, nums]
def Vote.good (v : Vote) : Bool := decide (1 ≤ v.kind) && decide (v.kind ≤ 2) && decide (0 ≤ v.epoch) && decide (v.epoch ≤ 1073741824) && decide (1 ≤ v.height) && decide (v.height ≤ 1024) && decide (0 ≤ v.round) && decide (v.round ≤ 1024) && decide (1 ≤ v.src) && decide (v.src ≤ 63)

/-! Plans. -/
structure Plan where
  epoch : Int
  height : Int
  round : Int
  valid : Int
  blk : Blk
  src : Int
  sig : Sig
def Plan.zero : Plan := ⟨0, 0, 0, 0, Blk.zero, 0, Sig.zero⟩
def planR : Fmt (Int × Int × Int × Int × Int × Blk × Sig) := seqF (inF 0 1073741824) fun _ => seqF (inF 1 1024) fun _ => seqF (inF 0 1024) fun n => seqF (inF (-1) (n - 1)) fun _ => seqF (inF 1 63) fun _ => seqF blkF fun _ => sigF
def planF : Fmt Plan := zeroF (mapF planR (fun x => ⟨x.1, x.2.1, x.2.2.1, x.2.2.2.1, x.2.2.2.2.2.1, x.2.2.2.2.1, x.2.2.2.2.2.2⟩) (fun p => (p.epoch, p.height, p.round, p.valid, p.src, p.blk, p.sig))) Plan.zero
def Plan.head (p : Plan) : Bytes := nums [p.epoch, p.height, p.round, p.valid, p.src] ++ p.blk.bytes
/-! Configurations. -/
structure Mem where
  id : Int
  root : Dg
  height : Int
structure Conf where
  epoch : Int
  ms : List Mem
def Conf.zero : Conf := ⟨0, []⟩
def lastId (l : List Mem) : Int := match l.getLast? with
  | some m => m.id
  | none => 0
@[simp] theorem lastId_nil : lastId [] = 0 := (rfl)
@[simp] theorem lastId_snoc (l : List Mem) (m : Mem) : lastId (l ++ [m]) = m.id := by simp [lastId]
def memF (l : List Mem) : Fmt Mem := mapF (seqF (inF (lastId l + 1) 63) fun _ => seqF (inF 0 6) fun _ => dgF) (fun x => ⟨x.1, x.2.2, x.2.1⟩) (fun m => (m.id, m.height, m.root))
theorem memF_law (l : List Mem) : (memF l).Law := mapF_law (seqF_law (inF_law _ _) fun _ => seqF_law (inF_law _ _) fun _ => dgF_law) (fun _ => rfl) (fun _ _ => rfl)
def confF : Fmt Conf := zeroF (mapF (seqF (inF 0 1073741824) fun _ => cntF 1 10 memF) (fun x => ⟨x.1, x.2⟩) (fun c => (c.epoch, c.ms))) Conf.zero
theorem confF_law : confF.Law := zeroF_law _ (mapF_law (seqF_law (inF_law _ _) fun _ => cntF_law (by omega) memF_law) (fun _ => rfl) (fun _ _ => rfl))
def Rd.confN (r : Rd) : Nat := ((r.inn' 0 1073741824).inn 1 10).toNat
theorem confF_rd' (r : Rd) : confF.rd' r = (repR memF ((r.inn' 0 1073741824).inn' 1 10) r.confN).2 := rfl
theorem confF_rd (r : Rd) : confF.rd r = if (confF.rd' r).bad = true then Conf.zero else ⟨r.inn 0 1073741824, (repR memF ((r.inn' 0 1073741824).inn' 1 10) r.confN).1⟩ := rfl
def memB (m : Mem) : Bytes := nums [m.id, m.height] ++ m.root.bs
def memsB (ms : List Mem) : Bytes := ms.flatMap memB
theorem memsB_eq : ∀ (ms l : List Mem), repW memF l ms = memsB ms
  | [], _ => rfl
  | m :: ms, l => by
    show (be8 m.id ++ (be8 m.height ++ m.root.bs)) ++ repW memF (l ++ [m]) ms = memsB (m :: ms)
    rw [memsB_eq ms]
    simp [memsB, memB, nums]
def Conf.bytes (c : Conf) : Bytes := nums [c.epoch, (c.ms.length : Int)] ++ memsB c.ms
theorem confF_wr (c : Conf) : confF.wr c = c.bytes := by
  show be8 c.epoch ++ (be8 (c.ms.length : Int) ++ repW memF [] c.ms) = _
  rw [memsB_eq]
  simp [Conf.bytes, nums]

/-! Words. -/
structure Cert where
  round : Int
  votes : List Vote
def Cert.zero : Cert := ⟨0, []⟩
def certF : Fmt Cert := zeroF (mapF (seqF (inF 0 1024) fun _ => cntF 1 10 (fun _ => voteF)) (fun x => ⟨x.1, x.2⟩) (fun c => (c.round, c.votes))) Cert.zero
def votesB (vs : List Vote) : Bytes := vs.flatMap voteF.wr
def Cert.bytes (c : Cert) : Bytes := nums [c.round, (c.votes.length : Int)] ++ votesB c.votes
/-- Whether it can be written: its signatures can. -/
def Cert.ok (c : Cert) : Bool := c.votes.all fun v => v.sig.ok

/-! Links. -/
structure Lnk where
  blk : Blk
  cert : Cert
  conf : Conf
def Lnk.zero : Lnk := ⟨Blk.zero, Cert.zero, Conf.zero⟩
def linkF : Fmt Lnk := zeroF (mapF (seqF blkF fun _ => seqF certF fun _ => confF) (fun x => ⟨x.1, x.2.1, x.2.2⟩) (fun l => (l.blk, l.cert, l.conf))) Lnk.zero
end
/-! As values. -/
@[simp] theorem Sig.avS_closed (q : Sig) : closed (Sig.avS q) = true := by simp [Sig.avS]
@[simp] theorem Sig.avS_solid (q : Sig) : (Sig.avS q).solid = true := by simp [Sig.avS]
@[simp] theorem Sig.avS_agg (q : Sig) : (Sig.avS q).isAgg = true := by simp [Sig.avS]
@[simp] theorem Sig.avS_size (q : Sig) : (Sig.avS q).size = 4 := by simp [Sig.avS]
@[simp] theorem Sig.avS_sub (q : Sig) : sub true 4 (Sig.avS q) 0 = some (Sig.avS q) := by simp [Sig.avS]
@[simp] theorem Sig.avS_good {M : List (Nat × Loc)} (q : Sig) : goodA false M (Sig.avS q) = true := goodA_closed (Sig.avS_closed q)
@[simp] theorem Sig.avS_pairs (q : Sig) : pairsA (Sig.avS q) (Sig.avS q) = [] := pairsA_closed (Sig.avS_closed q)
@[simp] theorem Sig.avS_ren {L : Names} {nb gn : Nat} (q : Sig) : renA L nb gn (Sig.avS q) = Sig.avS q := renA_closed (Sig.avS_closed q)
@[simp] theorem Sig.avS_fit {m : Nat → Option Loc} {L : Names} (q : Sig) : Fit m L (Sig.avS q) (Sig.avS q) = True := Fit_closed (Sig.avS_closed q)
@[simp] theorem Sig.avS_fitR {m : Nat → Option Loc} {L : Names} (q : Sig) : FitR m L (Sig.avS q) (Sig.avS q) = True := FitR_closed (Sig.avS_closed q)
@[simp] theorem Sig.avS_touch {m : Nat → Option Loc} (q : Sig) : touch m (Sig.avS q) (Sig.avS q) = [] := touch_closed (Sig.avS_closed q)
@[simp] theorem Sig.avS_touchR {m : Nat → Option Loc} (q : Sig) : touchR m (Sig.avS q) (Sig.avS q) = [] := touchR_closed (Sig.avS_closed q)
@[simp] theorem Sig.avS_stamped {U : Nat → Prop} (q : Sig) : Stamped U (Sig.avS q) = True := Stamped_closed (Sig.avS_closed q)
@[simp] theorem Sig.avS_tup (q : Sig) : (Sig.avS q).isTup = false := isTup_closed (Sig.avS_closed q)
@[simp] theorem Sig.avS_ref (q : Sig) : refOf (Sig.avS q) = none := refOf_closed (Sig.avS_closed q)
@[simp] theorem Sig.avS_put (q : Sig) (x : AV) : putAt true 4 x (Sig.avS q) 0 = some x := by simp [Sig.avS]
@[simp] theorem Blk.avS_closed (q : Blk) : closed (Blk.avS q) = true := by simp [Blk.avS]
@[simp] theorem Blk.avS_solid (q : Blk) : (Blk.avS q).solid = true := by simp [Blk.avS]
@[simp] theorem Blk.avS_agg (q : Blk) : (Blk.avS q).isAgg = true := by simp [Blk.avS]
@[simp] theorem Blk.avS_size (q : Blk) : (Blk.avS q).size = 99 := by simp [Blk.avS]
@[simp] theorem Blk.avS_sub (q : Blk) : sub true 99 (Blk.avS q) 0 = some (Blk.avS q) := by simp [Blk.avS]
@[simp] theorem Blk.avS_good {M : List (Nat × Loc)} (q : Blk) : goodA false M (Blk.avS q) = true := goodA_closed (Blk.avS_closed q)
@[simp] theorem Blk.avS_pairs (q : Blk) : pairsA (Blk.avS q) (Blk.avS q) = [] := pairsA_closed (Blk.avS_closed q)
@[simp] theorem Blk.avS_ren {L : Names} {nb gn : Nat} (q : Blk) : renA L nb gn (Blk.avS q) = Blk.avS q := renA_closed (Blk.avS_closed q)
@[simp] theorem Blk.avS_fit {m : Nat → Option Loc} {L : Names} (q : Blk) : Fit m L (Blk.avS q) (Blk.avS q) = True := Fit_closed (Blk.avS_closed q)
@[simp] theorem Blk.avS_fitR {m : Nat → Option Loc} {L : Names} (q : Blk) : FitR m L (Blk.avS q) (Blk.avS q) = True := FitR_closed (Blk.avS_closed q)
@[simp] theorem Blk.avS_touch {m : Nat → Option Loc} (q : Blk) : touch m (Blk.avS q) (Blk.avS q) = [] := touch_closed (Blk.avS_closed q)
@[simp] theorem Blk.avS_touchR {m : Nat → Option Loc} (q : Blk) : touchR m (Blk.avS q) (Blk.avS q) = [] := touchR_closed (Blk.avS_closed q)
@[simp] theorem Blk.avS_stamped {U : Nat → Prop} (q : Blk) : Stamped U (Blk.avS q) = True := Stamped_closed (Blk.avS_closed q)
@[simp] theorem Blk.avS_tup (q : Blk) : (Blk.avS q).isTup = false := isTup_closed (Blk.avS_closed q)
@[simp] theorem Blk.avS_ref (q : Blk) : refOf (Blk.avS q) = none := refOf_closed (Blk.avS_closed q)
@[simp] theorem Blk.avS_put (q : Blk) (x : AV) : putAt true 99 x (Blk.avS q) 0 = some x := by simp [Blk.avS]
@[simp] theorem Rep.avS_closed (q : Rep) : closed (Rep.avS q) = true := by simp [Rep.avS]
@[simp] theorem Rep.avS_solid (q : Rep) : (Rep.avS q).solid = true := by simp [Rep.avS]
@[simp] theorem Rep.avS_agg (q : Rep) : (Rep.avS q).isAgg = true := by simp [Rep.avS]
@[simp] theorem Rep.avS_size (q : Rep) : (Rep.avS q).size = 4 := by simp [Rep.avS]
@[simp] theorem Rep.avS_sub (q : Rep) : sub true 4 (Rep.avS q) 0 = some (Rep.avS q) := by simp [Rep.avS]
@[simp] theorem Rep.avS_good {M : List (Nat × Loc)} (q : Rep) : goodA false M (Rep.avS q) = true := goodA_closed (Rep.avS_closed q)
@[simp] theorem Rep.avS_pairs (q : Rep) : pairsA (Rep.avS q) (Rep.avS q) = [] := pairsA_closed (Rep.avS_closed q)
@[simp] theorem Rep.avS_ren {L : Names} {nb gn : Nat} (q : Rep) : renA L nb gn (Rep.avS q) = Rep.avS q := renA_closed (Rep.avS_closed q)
@[simp] theorem Rep.avS_fit {m : Nat → Option Loc} {L : Names} (q : Rep) : Fit m L (Rep.avS q) (Rep.avS q) = True := Fit_closed (Rep.avS_closed q)
@[simp] theorem Rep.avS_fitR {m : Nat → Option Loc} {L : Names} (q : Rep) : FitR m L (Rep.avS q) (Rep.avS q) = True := FitR_closed (Rep.avS_closed q)
@[simp] theorem Rep.avS_touch {m : Nat → Option Loc} (q : Rep) : touch m (Rep.avS q) (Rep.avS q) = [] := touch_closed (Rep.avS_closed q)
@[simp] theorem Rep.avS_touchR {m : Nat → Option Loc} (q : Rep) : touchR m (Rep.avS q) (Rep.avS q) = [] := touchR_closed (Rep.avS_closed q)
@[simp] theorem Rep.avS_stamped {U : Nat → Prop} (q : Rep) : Stamped U (Rep.avS q) = True := Stamped_closed (Rep.avS_closed q)
@[simp] theorem Rep.avS_tup (q : Rep) : (Rep.avS q).isTup = false := isTup_closed (Rep.avS_closed q)
@[simp] theorem Rep.avS_ref (q : Rep) : refOf (Rep.avS q) = none := refOf_closed (Rep.avS_closed q)
@[simp] theorem Rep.avS_put (q : Rep) (x : AV) : putAt true 4 x (Rep.avS q) 0 = some x := by simp [Rep.avS]
@[simp] theorem Req.av_good {M : List (Nat × Loc)} (q : Req) : goodA false M (Req.av q) = true := goodA_closed (Req.av_closed q)
@[simp] theorem Req.av_pairs (q : Req) : pairsA (Req.av q) (Req.av q) = [] := pairsA_closed (Req.av_closed q)
@[simp] theorem Req.av_ren {L : Names} {nb gn : Nat} (q : Req) : renA L nb gn (Req.av q) = Req.av q := renA_closed (Req.av_closed q)
@[simp] theorem Req.av_fit {m : Nat → Option Loc} {L : Names} (q : Req) : Fit m L (Req.av q) (Req.av q) = True := Fit_closed (Req.av_closed q)
@[simp] theorem Req.av_fitR {m : Nat → Option Loc} {L : Names} (q : Req) : FitR m L (Req.av q) (Req.av q) = True := FitR_closed (Req.av_closed q)
@[simp] theorem Req.av_touch {m : Nat → Option Loc} (q : Req) : touch m (Req.av q) (Req.av q) = [] := touch_closed (Req.av_closed q)
@[simp] theorem Req.av_touchR {m : Nat → Option Loc} (q : Req) : touchR m (Req.av q) (Req.av q) = [] := touchR_closed (Req.av_closed q)
@[simp] theorem Req.av_stamped {U : Nat → Prop} (q : Req) : Stamped U (Req.av q) = True := Stamped_closed (Req.av_closed q)
@[simp] theorem Req.av_tup (q : Req) : (Req.av q).isTup = false := isTup_closed (Req.av_closed q)
@[simp] theorem Req.av_ref (q : Req) : refOf (Req.av q) = none := refOf_closed (Req.av_closed q)
@[simp] theorem Req.av_put (q : Req) (x : AV) : putAt true 42 x (Req.av q) 0 = some x := by simp [Req.av, Chg.av]
def Vote.av (v : Vote) : AV := .node [.v (.int .i64 v.kind), .v (.int .i64 v.epoch), .v (.int .i64 v.height), .v (.int .i64 v.round), dv v.dg, .v (.int .i64 v.src), v.sig.avS]
@[simp] theorem Vote.av_closed (q : Vote) : closed (Vote.av q) = true := by simp [Vote.av]
@[simp] theorem Vote.av_solid (q : Vote) : (Vote.av q).solid = true := by simp [Vote.av]
@[simp] theorem Vote.av_agg (q : Vote) : (Vote.av q).isAgg = true := by simp [Vote.av]
@[simp] theorem Vote.av_size (q : Vote) : (Vote.av q).size = 41 := by simp [Vote.av]
@[simp] theorem Vote.av_sub (q : Vote) : sub true 41 (Vote.av q) 0 = some (Vote.av q) := by simp [Vote.av]
@[simp] theorem Vote.av_good {M : List (Nat × Loc)} (q : Vote) : goodA false M (Vote.av q) = true := goodA_closed (Vote.av_closed q)
@[simp] theorem Vote.av_pairs (q : Vote) : pairsA (Vote.av q) (Vote.av q) = [] := pairsA_closed (Vote.av_closed q)
@[simp] theorem Vote.av_ren {L : Names} {nb gn : Nat} (q : Vote) : renA L nb gn (Vote.av q) = Vote.av q := renA_closed (Vote.av_closed q)
@[simp] theorem Vote.av_fit {m : Nat → Option Loc} {L : Names} (q : Vote) : Fit m L (Vote.av q) (Vote.av q) = True := Fit_closed (Vote.av_closed q)
@[simp] theorem Vote.av_fitR {m : Nat → Option Loc} {L : Names} (q : Vote) : FitR m L (Vote.av q) (Vote.av q) = True := FitR_closed (Vote.av_closed q)
@[simp] theorem Vote.av_touch {m : Nat → Option Loc} (q : Vote) : touch m (Vote.av q) (Vote.av q) = [] := touch_closed (Vote.av_closed q)
@[simp] theorem Vote.av_touchR {m : Nat → Option Loc} (q : Vote) : touchR m (Vote.av q) (Vote.av q) = [] := touchR_closed (Vote.av_closed q)
@[simp] theorem Vote.av_stamped {U : Nat → Prop} (q : Vote) : Stamped U (Vote.av q) = True := Stamped_closed (Vote.av_closed q)
@[simp] theorem Vote.av_tup (q : Vote) : (Vote.av q).isTup = false := isTup_closed (Vote.av_closed q)
@[simp] theorem Vote.av_ref (q : Vote) : refOf (Vote.av q) = none := refOf_closed (Vote.av_closed q)
@[simp] theorem Vote.av_put (q : Vote) (x : AV) : putAt true 41 x (Vote.av q) 0 = some x := by simp [Vote.av]
def Votes (l : List Vote) : List AV := l.map Vote.av
@[simp] theorem Votes_length (l : List Vote) : (Votes l).length = l.length := by simp [Votes]
@[simp] theorem Votes_closed (l : List Vote) : closeds (Votes l) = true := by simp [Votes, closeds_all]
@[simp] theorem Votes_get (n : Nat) (l : List Vote) : (Votes l)[n]? = (l[n]?).map Vote.av := by simp [Votes]
@[simp] theorem Votes_getElem (n : Nat) (l : List Vote) (h : n < (Votes l).length) : (Votes l)[n] = Vote.av (l[n]'(by simpa [Votes] using h)) := by simp [Votes]
@[simp] theorem Votes_append (a b : List Vote) : Votes a ++ Votes b = Votes (a ++ b) := by simp [Votes]
@[simp] theorem Votes_drop (n : Nat) (a : List Vote) : (Votes a).drop n = Votes (a.drop n) := by simp [Votes]
@[simp] theorem Votes_take (n : Nat) (a : List Vote) : (Votes a).take n = Votes (a.take n) := by simp [Votes]
@[simp] theorem Votes_nil : Votes [] = [] := (rfl)
def Plan.av (p : Plan) : AV := .node [.v (.int .i64 p.epoch), .v (.int .i64 p.height), .v (.int .i64 p.round), .v (.int .i64 p.valid), p.blk.avS, .v (.int .i64 p.src), p.sig.avS]
@[simp] theorem Plan.av_closed (q : Plan) : closed (Plan.av q) = true := by simp [Plan.av]
@[simp] theorem Plan.av_solid (q : Plan) : (Plan.av q).solid = true := by simp [Plan.av]
@[simp] theorem Plan.av_agg (q : Plan) : (Plan.av q).isAgg = true := by simp [Plan.av]
@[simp] theorem Plan.av_size (q : Plan) : (Plan.av q).size = 108 := by simp [Plan.av]
@[simp] theorem Plan.av_sub (q : Plan) : sub true 108 (Plan.av q) 0 = some (Plan.av q) := by simp [Plan.av]
@[simp] theorem Plan.av_good {M : List (Nat × Loc)} (q : Plan) : goodA false M (Plan.av q) = true := goodA_closed (Plan.av_closed q)
@[simp] theorem Plan.av_pairs (q : Plan) : pairsA (Plan.av q) (Plan.av q) = [] := pairsA_closed (Plan.av_closed q)
@[simp] theorem Plan.av_ren {L : Names} {nb gn : Nat} (q : Plan) : renA L nb gn (Plan.av q) = Plan.av q := renA_closed (Plan.av_closed q)
@[simp] theorem Plan.av_fit {m : Nat → Option Loc} {L : Names} (q : Plan) : Fit m L (Plan.av q) (Plan.av q) = True := Fit_closed (Plan.av_closed q)
@[simp] theorem Plan.av_fitR {m : Nat → Option Loc} {L : Names} (q : Plan) : FitR m L (Plan.av q) (Plan.av q) = True := FitR_closed (Plan.av_closed q)
@[simp] theorem Plan.av_touch {m : Nat → Option Loc} (q : Plan) : touch m (Plan.av q) (Plan.av q) = [] := touch_closed (Plan.av_closed q)
@[simp] theorem Plan.av_touchR {m : Nat → Option Loc} (q : Plan) : touchR m (Plan.av q) (Plan.av q) = [] := touchR_closed (Plan.av_closed q)
@[simp] theorem Plan.av_stamped {U : Nat → Prop} (q : Plan) : Stamped U (Plan.av q) = True := Stamped_closed (Plan.av_closed q)
@[simp] theorem Plan.av_tup (q : Plan) : (Plan.av q).isTup = false := isTup_closed (Plan.av_closed q)
@[simp] theorem Plan.av_ref (q : Plan) : refOf (Plan.av q) = none := refOf_closed (Plan.av_closed q)
@[simp] theorem Plan.av_put (q : Plan) (x : AV) : putAt true 108 x (Plan.av q) 0 = some x := by simp [Plan.av]
def Mem.av (m : Mem) : AV := .node [.v (.int .i64 m.id), .node [dv m.root, .v (.int .i64 m.height)]]
@[simp] theorem Mem.av_closed (q : Mem) : closed (Mem.av q) = true := by simp [Mem.av]
@[simp] theorem Mem.av_solid (q : Mem) : (Mem.av q).solid = true := by simp [Mem.av]
@[simp] theorem Mem.av_agg (q : Mem) : (Mem.av q).isAgg = true := by simp [Mem.av]
@[simp] theorem Mem.av_size (q : Mem) : (Mem.av q).size = 34 := by simp [Mem.av]
@[simp] theorem Mem.av_sub (q : Mem) : sub true 34 (Mem.av q) 0 = some (Mem.av q) := by simp [Mem.av]
@[simp] theorem Mem.av_good {M : List (Nat × Loc)} (q : Mem) : goodA false M (Mem.av q) = true := goodA_closed (Mem.av_closed q)
@[simp] theorem Mem.av_pairs (q : Mem) : pairsA (Mem.av q) (Mem.av q) = [] := pairsA_closed (Mem.av_closed q)
@[simp] theorem Mem.av_ren {L : Names} {nb gn : Nat} (q : Mem) : renA L nb gn (Mem.av q) = Mem.av q := renA_closed (Mem.av_closed q)
@[simp] theorem Mem.av_fit {m : Nat → Option Loc} {L : Names} (q : Mem) : Fit m L (Mem.av q) (Mem.av q) = True := Fit_closed (Mem.av_closed q)
@[simp] theorem Mem.av_fitR {m : Nat → Option Loc} {L : Names} (q : Mem) : FitR m L (Mem.av q) (Mem.av q) = True := FitR_closed (Mem.av_closed q)
@[simp] theorem Mem.av_touch {m : Nat → Option Loc} (q : Mem) : touch m (Mem.av q) (Mem.av q) = [] := touch_closed (Mem.av_closed q)
@[simp] theorem Mem.av_touchR {m : Nat → Option Loc} (q : Mem) : touchR m (Mem.av q) (Mem.av q) = [] := touchR_closed (Mem.av_closed q)
@[simp] theorem Mem.av_stamped {U : Nat → Prop} (q : Mem) : Stamped U (Mem.av q) = True := Stamped_closed (Mem.av_closed q)
@[simp] theorem Mem.av_tup (q : Mem) : (Mem.av q).isTup = false := isTup_closed (Mem.av_closed q)
@[simp] theorem Mem.av_ref (q : Mem) : refOf (Mem.av q) = none := refOf_closed (Mem.av_closed q)
@[simp] theorem Mem.av_put (q : Mem) (x : AV) : putAt true 34 x (Mem.av q) 0 = some x := by simp [Mem.av]
def Mems (l : List Mem) : List AV := l.map Mem.av
@[simp] theorem Mems_length (l : List Mem) : (Mems l).length = l.length := by simp [Mems]
@[simp] theorem Mems_closed (l : List Mem) : closeds (Mems l) = true := by simp [Mems, closeds_all]
@[simp] theorem Mems_get (n : Nat) (l : List Mem) : (Mems l)[n]? = (l[n]?).map Mem.av := by simp [Mems]
@[simp] theorem Mems_getElem (n : Nat) (l : List Mem) (h : n < (Mems l).length) : (Mems l)[n] = Mem.av (l[n]'(by simpa [Mems] using h)) := by simp [Mems]
@[simp] theorem Mems_append (a b : List Mem) : Mems a ++ Mems b = Mems (a ++ b) := by simp [Mems]
@[simp] theorem Mems_drop (n : Nat) (a : List Mem) : (Mems a).drop n = Mems (a.drop n) := by simp [Mems]
@[simp] theorem Mems_take (n : Nat) (a : List Mem) : (Mems a).take n = Mems (a.take n) := by simp [Mems]
@[simp] theorem Mems_nil : Mems [] = [] := (rfl)
theorem Mems_snoc (l : List Mem) (a : Mem) : Mems l ++ [Mem.av a] = Mems (l ++ [a]) := by simp [Mems]
def Conf.av (c : Conf) : AV := .node [.v (.int .i64 c.epoch), .sl 34 (Mems c.ms)]
@[simp] theorem Conf.av_closed (q : Conf) : closed (Conf.av q) = true := by simp [Conf.av]
@[simp] theorem Conf.av_solid (q : Conf) : (Conf.av q).solid = true := by simp [Conf.av]
@[simp] theorem Conf.av_agg (q : Conf) : (Conf.av q).isAgg = true := by simp [Conf.av]
@[simp] theorem Conf.av_size (q : Conf) : (Conf.av q).size = 2 := by simp [Conf.av]
@[simp] theorem Conf.av_sub (q : Conf) : sub true 2 (Conf.av q) 0 = some (Conf.av q) := by simp [Conf.av]
@[simp] theorem Conf.av_good {M : List (Nat × Loc)} (q : Conf) : goodA false M (Conf.av q) = true := goodA_closed (Conf.av_closed q)
@[simp] theorem Conf.av_pairs (q : Conf) : pairsA (Conf.av q) (Conf.av q) = [] := pairsA_closed (Conf.av_closed q)
@[simp] theorem Conf.av_ren {L : Names} {nb gn : Nat} (q : Conf) : renA L nb gn (Conf.av q) = Conf.av q := renA_closed (Conf.av_closed q)
@[simp] theorem Conf.av_fit {m : Nat → Option Loc} {L : Names} (q : Conf) : Fit m L (Conf.av q) (Conf.av q) = True := Fit_closed (Conf.av_closed q)
@[simp] theorem Conf.av_fitR {m : Nat → Option Loc} {L : Names} (q : Conf) : FitR m L (Conf.av q) (Conf.av q) = True := FitR_closed (Conf.av_closed q)
@[simp] theorem Conf.av_touch {m : Nat → Option Loc} (q : Conf) : touch m (Conf.av q) (Conf.av q) = [] := touch_closed (Conf.av_closed q)
@[simp] theorem Conf.av_touchR {m : Nat → Option Loc} (q : Conf) : touchR m (Conf.av q) (Conf.av q) = [] := touchR_closed (Conf.av_closed q)
@[simp] theorem Conf.av_stamped {U : Nat → Prop} (q : Conf) : Stamped U (Conf.av q) = True := Stamped_closed (Conf.av_closed q)
@[simp] theorem Conf.av_tup (q : Conf) : (Conf.av q).isTup = false := isTup_closed (Conf.av_closed q)
@[simp] theorem Conf.av_ref (q : Conf) : refOf (Conf.av q) = none := refOf_closed (Conf.av_closed q)
@[simp] theorem Conf.av_put (q : Conf) (x : AV) : putAt true 2 x (Conf.av q) 0 = some x := by simp [Conf.av]
def Cert.av (c : Cert) : AV := .node [.v (.int .i64 c.round), .sl 41 (Votes c.votes)]
@[simp] theorem Cert.av_closed (q : Cert) : closed (Cert.av q) = true := by simp [Cert.av]
@[simp] theorem Cert.av_solid (q : Cert) : (Cert.av q).solid = true := by simp [Cert.av]
@[simp] theorem Cert.av_agg (q : Cert) : (Cert.av q).isAgg = true := by simp [Cert.av]
@[simp] theorem Cert.av_size (q : Cert) : (Cert.av q).size = 2 := by simp [Cert.av]
@[simp] theorem Cert.av_sub (q : Cert) : sub true 2 (Cert.av q) 0 = some (Cert.av q) := by simp [Cert.av]
@[simp] theorem Cert.av_good {M : List (Nat × Loc)} (q : Cert) : goodA false M (Cert.av q) = true := goodA_closed (Cert.av_closed q)
@[simp] theorem Cert.av_pairs (q : Cert) : pairsA (Cert.av q) (Cert.av q) = [] := pairsA_closed (Cert.av_closed q)
@[simp] theorem Cert.av_ren {L : Names} {nb gn : Nat} (q : Cert) : renA L nb gn (Cert.av q) = Cert.av q := renA_closed (Cert.av_closed q)
@[simp] theorem Cert.av_fit {m : Nat → Option Loc} {L : Names} (q : Cert) : Fit m L (Cert.av q) (Cert.av q) = True := Fit_closed (Cert.av_closed q)
@[simp] theorem Cert.av_fitR {m : Nat → Option Loc} {L : Names} (q : Cert) : FitR m L (Cert.av q) (Cert.av q) = True := FitR_closed (Cert.av_closed q)
@[simp] theorem Cert.av_touch {m : Nat → Option Loc} (q : Cert) : touch m (Cert.av q) (Cert.av q) = [] := touch_closed (Cert.av_closed q)
@[simp] theorem Cert.av_touchR {m : Nat → Option Loc} (q : Cert) : touchR m (Cert.av q) (Cert.av q) = [] := touchR_closed (Cert.av_closed q)
@[simp] theorem Cert.av_stamped {U : Nat → Prop} (q : Cert) : Stamped U (Cert.av q) = True := Stamped_closed (Cert.av_closed q)
@[simp] theorem Cert.av_tup (q : Cert) : (Cert.av q).isTup = false := isTup_closed (Cert.av_closed q)
@[simp] theorem Cert.av_ref (q : Cert) : refOf (Cert.av q) = none := refOf_closed (Cert.av_closed q)
@[simp] theorem Cert.av_put (q : Cert) (x : AV) : putAt true 2 x (Cert.av q) 0 = some x := by simp [Cert.av]
def Lnk.av (l : Lnk) : AV := .node [l.blk.avS, l.cert.av, l.conf.av]
@[simp] theorem Lnk.av_closed (q : Lnk) : closed (Lnk.av q) = true := by simp [Lnk.av]
@[simp] theorem Lnk.av_solid (q : Lnk) : (Lnk.av q).solid = true := by simp [Lnk.av]
@[simp] theorem Lnk.av_agg (q : Lnk) : (Lnk.av q).isAgg = true := by simp [Lnk.av]
@[simp] theorem Lnk.av_size (q : Lnk) : (Lnk.av q).size = 103 := by simp [Lnk.av]
@[simp] theorem Lnk.av_sub (q : Lnk) : sub true 103 (Lnk.av q) 0 = some (Lnk.av q) := by simp [Lnk.av]
@[simp] theorem Lnk.av_good {M : List (Nat × Loc)} (q : Lnk) : goodA false M (Lnk.av q) = true := goodA_closed (Lnk.av_closed q)
@[simp] theorem Lnk.av_pairs (q : Lnk) : pairsA (Lnk.av q) (Lnk.av q) = [] := pairsA_closed (Lnk.av_closed q)
@[simp] theorem Lnk.av_ren {L : Names} {nb gn : Nat} (q : Lnk) : renA L nb gn (Lnk.av q) = Lnk.av q := renA_closed (Lnk.av_closed q)
@[simp] theorem Lnk.av_fit {m : Nat → Option Loc} {L : Names} (q : Lnk) : Fit m L (Lnk.av q) (Lnk.av q) = True := Fit_closed (Lnk.av_closed q)
@[simp] theorem Lnk.av_fitR {m : Nat → Option Loc} {L : Names} (q : Lnk) : FitR m L (Lnk.av q) (Lnk.av q) = True := FitR_closed (Lnk.av_closed q)
@[simp] theorem Lnk.av_touch {m : Nat → Option Loc} (q : Lnk) : touch m (Lnk.av q) (Lnk.av q) = [] := touch_closed (Lnk.av_closed q)
@[simp] theorem Lnk.av_touchR {m : Nat → Option Loc} (q : Lnk) : touchR m (Lnk.av q) (Lnk.av q) = [] := touchR_closed (Lnk.av_closed q)
@[simp] theorem Lnk.av_stamped {U : Nat → Prop} (q : Lnk) : Stamped U (Lnk.av q) = True := Stamped_closed (Lnk.av_closed q)
@[simp] theorem Lnk.av_tup (q : Lnk) : (Lnk.av q).isTup = false := isTup_closed (Lnk.av_closed q)
@[simp] theorem Lnk.av_ref (q : Lnk) : refOf (Lnk.av q) = none := refOf_closed (Lnk.av_closed q)
@[simp] theorem Lnk.av_put (q : Lnk) (x : AV) : putAt true 103 x (Lnk.av q) 0 = some x := by simp [Lnk.av]
def Lnks (l : List Lnk) : List AV := l.map Lnk.av
@[simp] theorem Lnks_length (l : List Lnk) : (Lnks l).length = l.length := by simp [Lnks]
@[simp] theorem Lnks_closed (l : List Lnk) : closeds (Lnks l) = true := by simp [Lnks, closeds_all]
@[simp] theorem Lnks_get (n : Nat) (l : List Lnk) : (Lnks l)[n]? = (l[n]?).map Lnk.av := by simp [Lnks]
@[simp] theorem Lnks_getElem (n : Nat) (l : List Lnk) (h : n < (Lnks l).length) : (Lnks l)[n] = Lnk.av (l[n]'(by simpa [Lnks] using h)) := by simp [Lnks]
@[simp] theorem Lnks_append (a b : List Lnk) : Lnks a ++ Lnks b = Lnks (a ++ b) := by simp [Lnks]
@[simp] theorem Lnks_drop (n : Nat) (a : List Lnk) : (Lnks a).drop n = Lnks (a.drop n) := by simp [Lnks]
@[simp] theorem Lnks_take (n : Nat) (a : List Lnk) : (Lnks a).take n = Lnks (a.take n) := by simp [Lnks]
@[simp] theorem Lnks_nil : Lnks [] = [] := (rfl)
end Go.Proofs.YtbmdaaehogpeeaaDoor.WL

end
section
/-
  CHAPTERS 10, 11, 18: states and snapshots: formats and values.
-/
namespace Go.Proofs.YtbmdaaehogpeeaaDoor.WL
open Go

structure Pr where
  key : Bytes
  val : Bytes
structure Sta where
  pairs : List Pr
  reps : List Rep
  conf : Conf
def Sta.zero : Sta := ⟨[], [], Conf.zero⟩
structure Snp where
  height : Int
  tip : Dg
  st : Sta
def Snp.zero : Snp := ⟨0, Dg.zero, Sta.zero⟩

def prA (p : Pr) : AV := .node [.v (.string (mkS p.key)), .v (.string (mkS p.val))]
@[simp] theorem prA_closed (q : Pr) : closed (prA q) = true := by simp [prA]
@[simp] theorem prA_solid (q : Pr) : (prA q).solid = true := by simp [prA]
@[simp] theorem prA_agg (q : Pr) : (prA q).isAgg = true := by simp [prA]
@[simp] theorem prA_size (q : Pr) : (prA q).size = 2 := by simp [prA]
@[simp] theorem prA_sub (q : Pr) : sub true 2 (prA q) 0 = some (prA q) := by simp [prA]
@[simp] theorem prA_good {M : List (Nat × Loc)} (q : Pr) : goodA false M (prA q) = true := goodA_closed (prA_closed q)
@[simp] theorem prA_pairs (q : Pr) : pairsA (prA q) (prA q) = [] := pairsA_closed (prA_closed q)
@[simp] theorem prA_ren {L : Names} {nb gn : Nat} (q : Pr) : renA L nb gn (prA q) = prA q := renA_closed (prA_closed q)
@[simp] theorem prA_fit {m : Nat → Option Loc} {L : Names} (q : Pr) : Fit m L (prA q) (prA q) = True := Fit_closed (prA_closed q)
@[simp] theorem prA_fitR {m : Nat → Option Loc} {L : Names} (q : Pr) : FitR m L (prA q) (prA q) = True := FitR_closed (prA_closed q)
@[simp] theorem prA_touch {m : Nat → Option Loc} (q : Pr) : touch m (prA q) (prA q) = [] := touch_closed (prA_closed q)
@[simp] theorem prA_touchR {m : Nat → Option Loc} (q : Pr) : touchR m (prA q) (prA q) = [] := touchR_closed (prA_closed q)
@[simp] theorem prA_stamped {U : Nat → Prop} (q : Pr) : Stamped U (prA q) = True := Stamped_closed (prA_closed q)
@[simp] theorem prA_tup (q : Pr) : (prA q).isTup = false := isTup_closed (prA_closed q)
@[simp] theorem prA_ref (q : Pr) : refOf (prA q) = none := refOf_closed (prA_closed q)
@[simp] theorem prA_put (q : Pr) (x : AV) : putAt true 2 x (prA q) 0 = some x := by simp [prA]
def Prs (l : List Pr) : List AV := l.map prA
@[simp] theorem Prs_length (l : List Pr) : (Prs l).length = l.length := by simp [Prs]
@[simp] theorem Prs_closed (l : List Pr) : closeds (Prs l) = true := by simp [Prs, closeds_all]
@[simp] theorem Prs_get (n : Nat) (l : List Pr) : (Prs l)[n]? = (l[n]?).map prA := by simp [Prs]
@[simp] theorem Prs_getElem (n : Nat) (l : List Pr) (h : n < (Prs l).length) : (Prs l)[n] = prA (l[n]'(by simpa [Prs] using h)) := by simp [Prs]
@[simp] theorem Prs_append (a b : List Pr) : Prs a ++ Prs b = Prs (a ++ b) := by simp [Prs]
@[simp] theorem Prs_drop (n : Nat) (a : List Pr) : (Prs a).drop n = Prs (a.drop n) := by simp [Prs]
@[simp] theorem Prs_take (n : Nat) (a : List Pr) : (Prs a).take n = Prs (a.take n) := by simp [Prs]
@[simp] theorem Prs_nil : Prs [] = [] := (rfl)
theorem Prs_snoc (l : List Pr) (a : Pr) : Prs l ++ [prA a] = Prs (l ++ [a]) := by simp [Prs]
def Rps (l : List Rep) : List AV := l.map Rep.avS
@[simp] theorem Rps_length (l : List Rep) : (Rps l).length = l.length := by simp [Rps]
@[simp] theorem Rps_closed (l : List Rep) : closeds (Rps l) = true := by simp [Rps, closeds_all]
@[simp] theorem Rps_get (n : Nat) (l : List Rep) : (Rps l)[n]? = (l[n]?).map Rep.avS := by simp [Rps]
@[simp] theorem Rps_getElem (n : Nat) (l : List Rep) (h : n < (Rps l).length) : (Rps l)[n] = Rep.avS (l[n]'(by simpa [Rps] using h)) := by simp [Rps]
@[simp] theorem Rps_append (a b : List Rep) : Rps a ++ Rps b = Rps (a ++ b) := by simp [Rps]
@[simp] theorem Rps_drop (n : Nat) (a : List Rep) : (Rps a).drop n = Rps (a.drop n) := by simp [Rps]
@[simp] theorem Rps_take (n : Nat) (a : List Rep) : (Rps a).take n = Rps (a.take n) := by simp [Rps]
@[simp] theorem Rps_nil : Rps [] = [] := (rfl)
theorem Rps_snoc (l : List Rep) (a : Rep) : Rps l ++ [Rep.avS a] = Rps (l ++ [a]) := by simp [Rps]
def Sta.av (s : Sta) : AV := .node [.sl 2 (Prs s.pairs), .sl 4 (Rps s.reps), s.conf.av]
@[simp] theorem Sta.av_closed (q : Sta) : closed (Sta.av q) = true := by simp [Sta.av]
@[simp] theorem Sta.av_solid (q : Sta) : (Sta.av q).solid = true := by simp [Sta.av]
@[simp] theorem Sta.av_agg (q : Sta) : (Sta.av q).isAgg = true := by simp [Sta.av]
@[simp] theorem Sta.av_size (q : Sta) : (Sta.av q).size = 4 := by simp [Sta.av]
@[simp] theorem Sta.av_sub (q : Sta) : sub true 4 (Sta.av q) 0 = some (Sta.av q) := by simp [Sta.av]
@[simp] theorem Sta.av_good {M : List (Nat × Loc)} (q : Sta) : goodA false M (Sta.av q) = true := goodA_closed (Sta.av_closed q)
@[simp] theorem Sta.av_pairs (q : Sta) : pairsA (Sta.av q) (Sta.av q) = [] := pairsA_closed (Sta.av_closed q)
@[simp] theorem Sta.av_ren {L : Names} {nb gn : Nat} (q : Sta) : renA L nb gn (Sta.av q) = Sta.av q := renA_closed (Sta.av_closed q)
@[simp] theorem Sta.av_fit {m : Nat → Option Loc} {L : Names} (q : Sta) : Fit m L (Sta.av q) (Sta.av q) = True := Fit_closed (Sta.av_closed q)
@[simp] theorem Sta.av_fitR {m : Nat → Option Loc} {L : Names} (q : Sta) : FitR m L (Sta.av q) (Sta.av q) = True := FitR_closed (Sta.av_closed q)
@[simp] theorem Sta.av_touch {m : Nat → Option Loc} (q : Sta) : touch m (Sta.av q) (Sta.av q) = [] := touch_closed (Sta.av_closed q)
@[simp] theorem Sta.av_touchR {m : Nat → Option Loc} (q : Sta) : touchR m (Sta.av q) (Sta.av q) = [] := touchR_closed (Sta.av_closed q)
@[simp] theorem Sta.av_stamped {U : Nat → Prop} (q : Sta) : Stamped U (Sta.av q) = True := Stamped_closed (Sta.av_closed q)
@[simp] theorem Sta.av_tup (q : Sta) : (Sta.av q).isTup = false := isTup_closed (Sta.av_closed q)
@[simp] theorem Sta.av_ref (q : Sta) : refOf (Sta.av q) = none := refOf_closed (Sta.av_closed q)
@[simp] theorem Sta.av_put (q : Sta) (x : AV) : putAt true 4 x (Sta.av q) 0 = some x := by simp [Sta.av]
def Snp.av (s : Snp) : AV := .node [.v (.int .i64 s.height), dv s.tip, s.st.av]
@[simp] theorem Snp.av_closed (q : Snp) : closed (Snp.av q) = true := by simp [Snp.av]
@[simp] theorem Snp.av_solid (q : Snp) : (Snp.av q).solid = true := by simp [Snp.av]
@[simp] theorem Snp.av_agg (q : Snp) : (Snp.av q).isAgg = true := by simp [Snp.av]
@[simp] theorem Snp.av_size (q : Snp) : (Snp.av q).size = 37 := by simp [Snp.av]
@[simp] theorem Snp.av_sub (q : Snp) : sub true 37 (Snp.av q) 0 = some (Snp.av q) := by simp [Snp.av]
@[simp] theorem Snp.av_good {M : List (Nat × Loc)} (q : Snp) : goodA false M (Snp.av q) = true := goodA_closed (Snp.av_closed q)
@[simp] theorem Snp.av_pairs (q : Snp) : pairsA (Snp.av q) (Snp.av q) = [] := pairsA_closed (Snp.av_closed q)
@[simp] theorem Snp.av_ren {L : Names} {nb gn : Nat} (q : Snp) : renA L nb gn (Snp.av q) = Snp.av q := renA_closed (Snp.av_closed q)
@[simp] theorem Snp.av_fit {m : Nat → Option Loc} {L : Names} (q : Snp) : Fit m L (Snp.av q) (Snp.av q) = True := Fit_closed (Snp.av_closed q)
@[simp] theorem Snp.av_fitR {m : Nat → Option Loc} {L : Names} (q : Snp) : FitR m L (Snp.av q) (Snp.av q) = True := FitR_closed (Snp.av_closed q)
@[simp] theorem Snp.av_touch {m : Nat → Option Loc} (q : Snp) : touch m (Snp.av q) (Snp.av q) = [] := touch_closed (Snp.av_closed q)
@[simp] theorem Snp.av_touchR {m : Nat → Option Loc} (q : Snp) : touchR m (Snp.av q) (Snp.av q) = [] := touchR_closed (Snp.av_closed q)
@[simp] theorem Snp.av_stamped {U : Nat → Prop} (q : Snp) : Stamped U (Snp.av q) = True := Stamped_closed (Snp.av_closed q)
@[simp] theorem Snp.av_tup (q : Snp) : (Snp.av q).isTup = false := isTup_closed (Snp.av_closed q)
@[simp] theorem Snp.av_ref (q : Snp) : refOf (Snp.av q) = none := refOf_closed (Snp.av_closed q)
@[simp] theorem Snp.av_put (q : Snp) (x : AV) : putAt true 37 x (Snp.av q) 0 = some x := by simp [Snp.av]

/-! Their bytes. -/
def prB (p : Pr) : Bytes := txt p.key ++ txt p.val
def prsB (ps : List Pr) : Bytes := ps.flatMap prB
def rpsB (rs : List Rep) : Bytes := rs.flatMap Rep.bytes
def Sta.bytes (s : Sta) : Bytes := s.conf.bytes ++ be8 (s.pairs.length : Int) ++ prsB s.pairs ++ be8 (s.reps.length : Int) ++ rpsB s.reps
theorem prsB_take (ps : List Pr) {j : Nat} (h : j < ps.length) : prsB (ps.take (j + 1)) = prsB (ps.take j) ++ (txt ps[j].key ++ txt ps[j].val) := by
  unfold prsB
  rw [← List.take_append_getElem h, List.flatMap_append]
  simp [prB]
theorem rpsB_take (rs : List Rep) {j : Nat} (h : j < rs.length) : rpsB (rs.take (j + 1)) = rpsB (rs.take j) ++ rs[j].bytes := by
  unfold rpsB
  rw [← List.take_append_getElem h, List.flatMap_append]
  simp

/-! The formats. -/
section
attribute [local irreducible] Rd.inn Rd.inn' Rd.dg Rd.dg' Rd.text Rd.text' Rd.rep Rd.rep' repR confF
def prF : Fmt Pr := mapF (seqF (textF 1024) fun _ => textF 1024) (fun x => ⟨x.1, x.2⟩) (fun p => (p.key, p.val))
theorem prF_law : prF.Law := mapF_law (seqF_law (textF_law _) fun _ => textF_law _) (fun _ => rfl) (fun _ _ => rfl)
def stF : Fmt Sta := mapF (seqF confF fun _ => seqF (cntF 0 256 fun _ => prF) fun _ => cntF 0 64 fun _ => replyF) (fun x => ⟨x.2.1, x.2.2, x.1⟩) (fun s => (s.conf, s.pairs, s.reps))
theorem stF_law : stF.Law := mapF_law (seqF_law confF_law fun _ => seqF_law (cntF_law (by omega) fun _ => prF_law) fun _ => cntF_law (by omega) fun _ => replyF_law) (fun _ => rfl) (fun _ _ => rfl)
def Rd.stN (r : Rd) : Nat := ((confF.rd' r).inn 0 256).toNat
def Rd.st1 (r : Rd) : Rd := (confF.rd' r).inn' 0 256
def Rd.st2 (r : Rd) : Rd := (repR (fun _ => prF) r.st1 r.stN).2
def Rd.stM (r : Rd) : Nat := (r.st2.inn 0 64).toNat
def Rd.st3 (r : Rd) : Rd := r.st2.inn' 0 64
theorem stF_rd (r : Rd) : stF.rd r = ⟨(repR (fun _ => prF) r.st1 r.stN).1, (repR (fun _ => replyF) r.st3 r.stM).1, confF.rd r⟩ := rfl
theorem stF_rd' (r : Rd) : stF.rd' r = (repR (fun _ => replyF) r.st3 r.stM).2 := rfl
theorem stF_wr (s : Sta) : stF.wr s = s.bytes := by
  show confF.wr s.conf ++ ((be8 (s.pairs.length : Int) ++ repW (fun _ => prF) [] s.pairs) ++ (be8 (s.reps.length : Int) ++ repW (fun _ => replyF) [] s.reps)) = _
  rw [confF_wr, repW_const, repW_const]
  simp only [Sta.bytes, prsB, rpsB, List.append_assoc]
  rfl

end
/-! Do pairs and replies stand in order? -/
def ltB (a b : Bytes) : Bool := Op.bytesLess (mkS a).toList (mkS b).toList
def rP (ps : List Pr) : Prop := ∀ i (h : i < ps.length), 0 < i → ltB (ps[i - 1]).key (ps[i]).key = true
def rR (rs : List Rep) : Prop := ∀ i (h : i < rs.length), 0 < i → (rs[i - 1]).client < (rs[i]).client
def Sta.rises (s : Sta) : Bool := decide (∀ i (h : i < s.pairs.length), 0 < i → ltB (s.pairs[i - 1]).key (s.pairs[i]).key = true) && decide (∀ i (h : i < s.reps.length), 0 < i → (s.reps[i - 1]).client < (s.reps[i]).client)
theorem Sta.rises_iff (s : Sta) : s.rises = true ↔ rP s.pairs ∧ rR s.reps := by
  simp only [Sta.rises, Bool.and_eq_true, decide_eq_true_eq]
  rfl
/-- A state that bytes hold. -/
def stOk (b : Bytes) : Bool := (stF.rd' (Rd.of b)).done && (stF.rd (Rd.of b)).rises
def stOf (b : Bytes) : Sta := stF.rd (Rd.of b)

/-! A snapshot's bytes. -/
def bSnap : Bytes := [115, 110, 97, 112]
def Snp.body (s : Snp) : Bytes := be8 s.height ++ s.tip.bs ++ txt s.st.bytes
def Snp.bytes (s : Snp) : Bytes := (sha (bSnap ++ s.body)).bs ++ s.body
def Rd.n1 (r : Rd) : Rd := r.dg'
def Rd.n2 (r : Rd) : Rd := r.n1.inn' 0 1024
def Rd.n3 (r : Rd) : Rd := r.n2.dg'
end Go.Proofs.YtbmdaaehogpeeaaDoor.WL

end
section
/-
  CHAPTER 02: how the digest is reckoned piece by piece.
-/
namespace Go.Proofs.YtbmdaaehogpeeaaDoor.WL
open Go
attribute [local irreducible] comp

/-- The bytes that wait for their block's end. -/
def rem (d : Bytes) : Bytes := d.drop (64 * (d.length / 64))
theorem rem_length (d : Bytes) : (rem d).length = d.length % 64 := by
  simp only [rem, List.length_drop]
  omega
theorem hb_succ (n : Nat) (b : Bytes) : hb (n + 1) b = comp (hb n b) ((b.drop (64 * n)).take 64) := rfl
/-- More bytes, not up to a block's end. -/
theorem hb_more (d x : Bytes) (h : (rem d).length + x.length < 64) : (d ++ x).length / 64 = d.length / 64 ∧ rem (d ++ x) = rem d ++ x ∧ hb ((d ++ x).length / 64) (d ++ x) = hb (d.length / 64) d := by
  rw [rem_length] at h
  have h1 : (d ++ x).length / 64 = d.length / 64 := by rw [List.length_append]; omega
  refine ⟨h1, ?_, ?_⟩
  · rw [rem, h1, List.drop_append_of_le_length (by omega)]
    rfl
  · rw [h1]
    exact hb_append _ _ _ (by omega)
/-- Just to a block's end. -/
theorem hb_full (d x : Bytes) (h : (rem d).length + x.length = 64) : (d ++ x).length / 64 = d.length / 64 + 1 ∧ rem (d ++ x) = [] ∧ hb ((d ++ x).length / 64) (d ++ x) = comp (hb (d.length / 64) d) (rem d ++ x) := by
  have h0 := h
  rw [rem_length] at h
  have hx : 0 < x.length := by omega
  have h1 : (d ++ x).length / 64 = d.length / 64 + 1 := by rw [List.length_append]; omega
  refine ⟨h1, ?_, ?_⟩
  · rw [rem, h1, List.drop_of_length_le (by rw [List.length_append]; omega)]
  · rw [h1, hb_succ, hb_append _ _ _ (by omega), List.drop_append_of_le_length (by omega)]
    congr 1
    show (rem d ++ x).take 64 = _
    exact List.take_of_length_le (by rw [List.length_append]; omega)
theorem fill_small (n : Nat) (h : n % 64 < 56) : fillN n = 55 - n % 64 := by unfold fillN; omega
theorem fill_great (n : Nat) (h : 56 ≤ n % 64) : fillN n = 119 - n % 64 := by unfold fillN; omega
/-- The end, in one block. -/
theorem sha_small (d : Bytes) (h : d.length % 64 < 56) : (sha d).bs = (comp (hb (d.length / 64) d) (rem d ++ 128 :: (zeros (55 - d.length % 64) ++ be8 (8 * d.length : Nat)))).bytes := by
  show (hb ((pad d).length / 64) (pad d)).bytes = _
  have hl := rem_length d
  have e : pad d = d ++ (128 :: (zeros (55 - d.length % 64) ++ be8 (8 * d.length : Nat))) := by rw [pad, fill_small _ h]
  obtain ⟨_, _, h3⟩ := hb_full d (128 :: (zeros (55 - d.length % 64) ++ be8 (8 * d.length : Nat))) (by simp only [List.length_cons, List.length_append, zeros_length, be8_length]; omega)
  rw [e, h3]
/-- The end, in two blocks. -/
theorem sha_great (d : Bytes) (h : 56 ≤ d.length % 64) : (sha d).bs = (comp (comp (hb (d.length / 64) d) (rem d ++ 128 :: zeros (63 - d.length % 64))) (zeros 56 ++ be8 (8 * d.length : Nat))).bytes := by
  show (hb ((pad d).length / 64) (pad d)).bytes = _
  have hl := rem_length d
  have hlt : d.length % 64 < 64 := Nat.mod_lt _ (by decide)
  have e : pad d = (d ++ 128 :: zeros (63 - d.length % 64)) ++ (zeros 56 ++ be8 (8 * d.length : Nat)) := by
    rw [pad, fill_great _ h, show 119 - d.length % 64 = (63 - d.length % 64) + 56 by omega]
    simp only [zeros, ← List.replicate_append_replicate, List.append_assoc, List.cons_append]
  obtain ⟨h1, h2, h3⟩ := hb_full d (128 :: zeros (63 - d.length % 64)) (by simp only [List.length_cons, zeros_length]; omega)
  obtain ⟨_, _, k3⟩ := hb_full (d ++ 128 :: zeros (63 - d.length % 64)) (zeros 56 ++ be8 (8 * d.length : Nat)) (by rw [h2]; simp)
  rw [e, k3, h2, h3, List.nil_append]
end Go.Proofs.YtbmdaaehogpeeaaDoor.WL

end
section
/-
  CHAPTER 20: mails, without any program.
-/
namespace Go.Proofs.YtbmdaaehogpeeaaDoor.WL
open Go
attribute [local irreducible] sha
attribute [local irreducible] Rd.sig Rd.sig' Rd.blk Rd.blk' Rd.inn Rd.inn' Rd.dg Rd.dg' Rd.rep Rd.rep' Rd.req Rd.req' repR

structure Piece where
  at_ : Int
  count : Int
  tree : Dg
  data : Bytes
  path : List Dg
def Piece.zero : Piece := ⟨0, 0, Dg.zero, [], []⟩
def pieceF : Fmt Piece := mapF (seqF (inF 0 1024) fun _ => seqF (inF 0 1024) fun _ => seqF (inF 0 16) fun n => seqF dgF fun _ => seqF (repF (fun _ => dgF) n.toNat) fun _ => textF 1024)
  (fun x => ⟨x.1, x.2.1, x.2.2.2.1, x.2.2.2.2.2, x.2.2.2.2.1⟩) (fun p => (p.at_, p.count, (p.path.length : Int), p.tree, p.path, p.data))
def Piece.bytes (p : Piece) : Bytes := nums [p.at_, p.count, (p.path.length : Int)] ++ (flatD (p.tree :: p.path) ++ txt p.data)
def Piece.av (p : Piece) : AV := .node [.v (.int .i64 p.at_), .v (.int .i64 p.count), dv p.tree, .v (.string (mkS p.data)), .sl 32 (Dgs p.path)]
@[simp] theorem Piece.av_closed (q : Piece) : closed (Piece.av q) = true := by simp [Piece.av]
@[simp] theorem Piece.av_solid (q : Piece) : (Piece.av q).solid = true := by simp [Piece.av]
@[simp] theorem Piece.av_agg (q : Piece) : (Piece.av q).isAgg = true := by simp [Piece.av]
@[simp] theorem Piece.av_size (q : Piece) : (Piece.av q).size = 36 := by simp [Piece.av]
@[simp] theorem Piece.av_sub (q : Piece) : sub true 36 (Piece.av q) 0 = some (Piece.av q) := by simp [Piece.av]
@[simp] theorem Piece.av_good {M : List (Nat × Loc)} (q : Piece) : goodA false M (Piece.av q) = true := goodA_closed (Piece.av_closed q)
@[simp] theorem Piece.av_pairs (q : Piece) : pairsA (Piece.av q) (Piece.av q) = [] := pairsA_closed (Piece.av_closed q)
@[simp] theorem Piece.av_ren {L : Names} {nb gn : Nat} (q : Piece) : renA L nb gn (Piece.av q) = Piece.av q := renA_closed (Piece.av_closed q)
@[simp] theorem Piece.av_fit {m : Nat → Option Loc} {L : Names} (q : Piece) : Fit m L (Piece.av q) (Piece.av q) = True := Fit_closed (Piece.av_closed q)
@[simp] theorem Piece.av_fitR {m : Nat → Option Loc} {L : Names} (q : Piece) : FitR m L (Piece.av q) (Piece.av q) = True := FitR_closed (Piece.av_closed q)
@[simp] theorem Piece.av_touch {m : Nat → Option Loc} (q : Piece) : touch m (Piece.av q) (Piece.av q) = [] := touch_closed (Piece.av_closed q)
@[simp] theorem Piece.av_touchR {m : Nat → Option Loc} (q : Piece) : touchR m (Piece.av q) (Piece.av q) = [] := touchR_closed (Piece.av_closed q)
@[simp] theorem Piece.av_stamped {U : Nat → Prop} (q : Piece) : Stamped U (Piece.av q) = True := Stamped_closed (Piece.av_closed q)
@[simp] theorem Piece.av_tup (q : Piece) : (Piece.av q).isTup = false := isTup_closed (Piece.av_closed q)
@[simp] theorem Piece.av_ref (q : Piece) : refOf (Piece.av q) = none := refOf_closed (Piece.av_closed q)
@[simp] theorem Piece.av_put (q : Piece) (x : AV) : putAt true 36 x (Piece.av q) 0 = some x := by simp [Piece.av]
def Pcs (l : List Piece) : List AV := l.map Piece.av
@[simp] theorem Pcs_length (l : List Piece) : (Pcs l).length = l.length := by simp [Pcs]
@[simp] theorem Pcs_closed (l : List Piece) : closeds (Pcs l) = true := by simp [Pcs, closeds_all]
@[simp] theorem Pcs_get (n : Nat) (l : List Piece) : (Pcs l)[n]? = (l[n]?).map Piece.av := by simp [Pcs]
@[simp] theorem Pcs_getElem (n : Nat) (l : List Piece) (h : n < (Pcs l).length) : (Pcs l)[n] = Piece.av (l[n]'(by simpa [Pcs] using h)) := by simp [Pcs]
@[simp] theorem Pcs_append (a b : List Piece) : Pcs a ++ Pcs b = Pcs (a ++ b) := by simp [Pcs]
@[simp] theorem Pcs_drop (n : Nat) (a : List Piece) : (Pcs a).drop n = Pcs (a.drop n) := by simp [Pcs]
@[simp] theorem Pcs_take (n : Nat) (a : List Piece) : (Pcs a).take n = Pcs (a.take n) := by simp [Pcs]
@[simp] theorem Pcs_nil : Pcs [] = [] := (rfl)
structure Mail where
  kind : Int
  plan : Plan
  vote : Vote
  req : Req
  rep : Rep
  height : Int
  blk : Blk
  cert : Cert
  links : List Lnk
  pieces : List Piece
def Mail.zero : Mail := ⟨0, Plan.zero, Vote.zero, Req.zero, Rep.zero, 0, Blk.zero, Cert.zero, [], []⟩
def Mail.av (m : Mail) : AV := .node [.v (.int .i64 m.kind), m.plan.av, m.vote.av, m.req.av, m.rep.avS, .v (.int .i64 m.height), m.blk.avS, m.cert.av, .sl 103 (Lnks m.links), .sl 36 (Pcs m.pieces)]
@[simp] theorem Mail.av_closed (q : Mail) : closed (Mail.av q) = true := by simp [Mail.av]
@[simp] theorem Mail.av_solid (q : Mail) : (Mail.av q).solid = true := by simp [Mail.av]
@[simp] theorem Mail.av_agg (q : Mail) : (Mail.av q).isAgg = true := by simp [Mail.av]
@[simp] theorem Mail.av_size (q : Mail) : (Mail.av q).size = 300 := by simp [Mail.av]
@[simp] theorem Mail.av_sub (q : Mail) : sub true 300 (Mail.av q) 0 = some (Mail.av q) := by simp [Mail.av]
@[simp] theorem Mail.av_good {M : List (Nat × Loc)} (q : Mail) : goodA false M (Mail.av q) = true := goodA_closed (Mail.av_closed q)
@[simp] theorem Mail.av_pairs (q : Mail) : pairsA (Mail.av q) (Mail.av q) = [] := pairsA_closed (Mail.av_closed q)
@[simp] theorem Mail.av_ren {L : Names} {nb gn : Nat} (q : Mail) : renA L nb gn (Mail.av q) = Mail.av q := renA_closed (Mail.av_closed q)
@[simp] theorem Mail.av_fit {m : Nat → Option Loc} {L : Names} (q : Mail) : Fit m L (Mail.av q) (Mail.av q) = True := Fit_closed (Mail.av_closed q)
@[simp] theorem Mail.av_fitR {m : Nat → Option Loc} {L : Names} (q : Mail) : FitR m L (Mail.av q) (Mail.av q) = True := FitR_closed (Mail.av_closed q)
@[simp] theorem Mail.av_touch {m : Nat → Option Loc} (q : Mail) : touch m (Mail.av q) (Mail.av q) = [] := touch_closed (Mail.av_closed q)
@[simp] theorem Mail.av_touchR {m : Nat → Option Loc} (q : Mail) : touchR m (Mail.av q) (Mail.av q) = [] := touchR_closed (Mail.av_closed q)
@[simp] theorem Mail.av_stamped {U : Nat → Prop} (q : Mail) : Stamped U (Mail.av q) = True := Stamped_closed (Mail.av_closed q)
@[simp] theorem Mail.av_tup (q : Mail) : (Mail.av q).isTup = false := isTup_closed (Mail.av_closed q)
@[simp] theorem Mail.av_ref (q : Mail) : refOf (Mail.av q) = none := refOf_closed (Mail.av_closed q)
@[simp] theorem Mail.av_put (q : Mail) (x : AV) : putAt true 300 x (Mail.av q) 0 = some x := by simp [Mail.av]

def linksF : Fmt (List Lnk) := cntF 0 1024 (fun _ => linkF)
def piecesF : Fmt (List Piece) := cntF 0 1024 (fun _ => pieceF)
def Mail.body (m : Mail) : Bytes :=
  if m.kind = 1 then planF.wr m.plan else if m.kind = 2 then voteF.wr m.vote else if m.kind = 3 then m.req.bytes else if m.kind = 4 then be8 m.height ++ m.rep.bytes else if m.kind = 5 then m.blk.bytes ++ m.cert.bytes
  else if m.kind = 6 then be8 m.height else if m.kind = 8 then linksF.wr m.links else if m.kind = 9 then m.blk.bytes ++ m.cert.bytes ++ piecesF.wr m.pieces else []
/-- Whether it can be written. -/
def Mail.ok (m : Mail) : Bool :=
  if m.kind = 1 then m.plan.sig.ok else if m.kind = 2 then m.vote.sig.ok else if m.kind = 5 then m.cert.ok else if m.kind = 8 then m.links.all (fun l => l.cert.ok) else if m.kind = 9 then m.cert.ok else true
def Mail.bytes (m : Mail) : Bytes := be8 m.kind ++ m.body
end Go.Proofs.YtbmdaaehogpeeaaDoor.WL

end
section
/-
  CHAPTER 05: arguments that come in.
-/
namespace Go.Proofs.YtbmdaaehogpeeaaDoor.WL
open Go

abbrev Ty.dgs : Ty := .sl 32 32 Ty.dg
abbrev Ty.sig : Ty := .st [.int .i64, .st [Ty.dgs, Ty.dgs], Ty.dgs]
structure KeyD where
  root : Dg
  height : Int
def KeyD.av (k : KeyD) : AV := .node [dv k.root, .v (.int .i64 k.height)]
abbrev Ty.key : Ty := .st [Ty.dg, .int .i64]
end Go.Proofs.YtbmdaaehogpeeaaDoor.WL

end
section
/-
  CHAPTER 09: arguments that come in.
-/
namespace Go.Proofs.YtbmdaaehogpeeaaDoor.WL
open Go

abbrev Ty.chg : Ty := .st [.int .i64, .int .i64, .int .i64, .st [Ty.dg, .int .i64]]
abbrev Ty.req : Ty := .st [.int .i64, .int .i64, .st [.int .i64, .str, .str, .str, Ty.chg]]
/-- What is known of a request that comes in. -/
structure Req.In (q : Req) : Prop where
  client : W64 q.client
  num : W64 q.num
  kind : W64 q.kind
  ckind : W64 q.ch.kind
  cid : W64 q.ch.id
  cnew : W64 q.ch.new
  cheight : W64 q.ch.height
  key : q.key.length ≤ reachBytes
  val : q.val.length ≤ reachBytes
  old : q.old.length ≤ reachBytes
abbrev Ty.rep : Ty := .st [.int .i64, .int .i64, .int .i64, .sl 1 16 .str]
theorem ty_rep {a : AV} (h : TyOk Ty.rep a) : ∃ q : Rep, a = q.avS ∧ (W64 q.client ∧ W64 q.num ∧ W64 q.code) ∧ ∀ v ∈ q.vals, v.length ≤ reachBytes := by
  obtain ⟨a1, a2, a3, a4, rfl, h1, h2, h3, h4⟩ := ty_st4 h
  obtain ⟨n1, rfl, w1⟩ := ty_int h1
  obtain ⟨n2, rfl, w2⟩ := ty_int h2
  obtain ⟨n3, rfl, w3⟩ := ty_int h3
  obtain ⟨ss, rfl, hs⟩ := ty_strs h4
  exact ⟨⟨n1, n2, n3, ss⟩, rfl, ⟨w1, w2, w3⟩, hs.2⟩
end Go.Proofs.YtbmdaaehogpeeaaDoor.WL

end
section
/-
  CHAPTER 12: arguments that come in.
-/
namespace Go.Proofs.YtbmdaaehogpeeaaDoor.WL
open Go

abbrev Ty.blk : Ty := .st [.int .i64, .int .i64, Ty.dg, Ty.dg, Ty.dg, .sl 42 136 Ty.req]
/-- What is known of a block that comes in. -/
structure Blk.In (b : Blk) : Prop where
  epoch : W64 b.epoch
  height : W64 b.height
  len : b.qs.length * 136 ≤ reachBytes
  qs : ∀ q ∈ b.qs, q.In
theorem Blk.In.texts {b : Blk} (h : b.In) : ∀ q ∈ b.qs, q.key.length ≤ reachBytes ∧ q.val.length ≤ reachBytes ∧ q.old.length ≤ reachBytes :=
  fun q hq => ⟨(h.qs q hq).key, (h.qs q hq).val, (h.qs q hq).old⟩
end Go.Proofs.YtbmdaaehogpeeaaDoor.WL

end
section
/-
  CHAPTERS 13, 08, 14, 15, 20: arguments that come in.
-/
namespace Go.Proofs.YtbmdaaehogpeeaaDoor.WL
open Go

theorem ty_list {α : Type} {e : Ty} {sz bytes : Nat} {f : α → AV} {p : α → Prop} (he : ∀ a, TyOk e a → ∃ x, a = f x ∧ p x) {a : AV} (h : TyOk (.sl sz bytes e) a) : ∃ xs : List α, a = .sl sz (xs.map f) ∧ xs.length * bytes ≤ reachBytes ∧ ∀ x ∈ xs, p x := by
  obtain ⟨xs, rfl, ⟨_, h1⟩, h2⟩ := ty_sl h
  obtain ⟨ns, rfl, h3⟩ := map_of_all (f := f) (p := p) fun x hx => he x (h2 x hx)
  exact ⟨ns, rfl, by simpa using h1, h3⟩

abbrev Ty.vote : Ty := .st [.int .i64, .int .i64, .int .i64, .int .i64, Ty.dg, .int .i64, Ty.sig]
structure Vote.In (v : Vote) : Prop where
  kind : W64 v.kind
  epoch : W64 v.epoch
  height : W64 v.height
  round : W64 v.round
  src : W64 v.src
  leaf : W64 v.sig.leaf
abbrev Ty.plan : Ty := .st [.int .i64, .int .i64, .int .i64, .int .i64, Ty.blk, .int .i64, Ty.sig]
structure Plan.In (p : Plan) : Prop where
  epoch : W64 p.epoch
  height : W64 p.height
  round : W64 p.round
  valid : W64 p.valid
  blk : p.blk.In
  src : W64 p.src
  leaf : W64 p.sig.leaf
abbrev Ty.mem : Ty := .st [.int .i64, .st [Ty.dg, .int .i64]]
def Mem.In (m : Mem) : Prop := W64 m.id ∧ W64 m.height
theorem ty_mem {a : AV} (h : TyOk Ty.mem a) : ∃ m : Mem, a = m.av ∧ m.In := by
  obtain ⟨a1, a2, rfl, h1, h2⟩ := ty_st2 h
  obtain ⟨n, rfl, w1⟩ := ty_int h1
  obtain ⟨b1, b2, rfl, g1, g2⟩ := ty_st2 h2
  obtain ⟨d, rfl⟩ := ty_dg g1
  obtain ⟨k, rfl, w2⟩ := ty_int g2
  exact ⟨⟨n, d, k⟩, rfl, w1, w2⟩
abbrev Ty.conf : Ty := .st [.int .i64, .sl 34 48 Ty.mem]
structure Conf.In (c : Conf) : Prop where
  epoch : W64 c.epoch
  len : c.ms.length * 48 ≤ reachBytes
  ms : ∀ m ∈ c.ms, m.In
theorem ty_conf {a : AV} (h : TyOk Ty.conf a) : ∃ c : Conf, a = c.av ∧ c.In := by
  obtain ⟨a1, a2, rfl, h1, h2⟩ := ty_st2 h
  obtain ⟨n, rfl, w1⟩ := ty_int h1
  obtain ⟨ms, rfl, l, hm⟩ := ty_list (fun _ => ty_mem) h2
  exact ⟨⟨n, ms⟩, rfl, w1, l, hm⟩
abbrev Ty.cert : Ty := .st [.int .i64, .sl 41 152 Ty.vote]
structure Cert.In (c : Cert) : Prop where
  round : W64 c.round
  len : c.votes.length * 152 ≤ reachBytes
  votes : ∀ v ∈ c.votes, v.In
structure Lnk.In (l : Lnk) : Prop where
  blk : l.blk.In
  cert : l.cert.In
  conf : l.conf.In
abbrev Ty.piece : Ty := .st [.int .i64, .int .i64, Ty.dg, .str, Ty.dgs]
structure Piece.In (p : Piece) : Prop where
  at_ : W64 p.at_
  count : W64 p.count
  data : p.data.length ≤ reachBytes
  path : p.path.length ≤ reachBytes
structure Mail.In (m : Mail) : Prop where
  kind : W64 m.kind
  plan : m.plan.In
  vote : m.vote.In
  req : m.req.In
  rep : (W64 m.rep.client ∧ W64 m.rep.num ∧ W64 m.rep.code) ∧ ∀ v ∈ m.rep.vals, v.length ≤ reachBytes
  height : W64 m.height
  blk : m.blk.In
  cert : m.cert.In
  linksn : m.links.length * 200 ≤ reachBytes
  links : ∀ l ∈ m.links, l.In
  piecesn : m.pieces.length * 88 ≤ reachBytes
  pieces : ∀ p ∈ m.pieces, p.In
end Go.Proofs.YtbmdaaehogpeeaaDoor.WL

end
