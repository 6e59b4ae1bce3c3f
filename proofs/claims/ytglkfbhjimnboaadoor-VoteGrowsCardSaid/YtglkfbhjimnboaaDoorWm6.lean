/- Texts put together: F20, T05, T09, T12, T13. -/
import Derived.Test.YtglkfbhjimnboaaDoorWm5
section
/-
  CHAPTER 20: mails, without any program.
-/
namespace Go.Proofs.YtglkfbhjimnboaaDoor.WL
open Go
attribute [local irreducible] sha
attribute [local irreducible] Rd.sig Rd.sig' Rd.blk Rd.blk' Rd.inn Rd.inn' Rd.dg Rd.dg' Rd.rep Rd.rep' Rd.req Rd.req' repR

structure Piece where
  at_ : Int
  count : Int
  tree : Dg
  data : Bytes
  path : List Dg
def Piece.zero : Piece := ⟨0, 0, Dg.zero, [], []⟩
def pieceF : Fmt Piece := mapF (seqF (inF 0 1024) fun _ => seqF (inF 0 1024) fun _ => seqF (inF 0 16) fun n => seqF dgF fun _ => seqF (repF (fun _ => dgF) n.toNat) fun _ => textF 1024)
  (fun x => ⟨x.1, x.2.1, x.2.2.2.1, x.2.2.2.2.2, x.2.2.2.2.1⟩) (fun p => (p.at_, p.count, (p.path.length : Int), p.tree, p.path, p.data))
def Piece.bytes (p : Piece) : Bytes := nums [p.at_, p.count, (p.path.length : Int)] ++ (flatD (p.tree :: p.path) ++ txt p.data)
def Piece.av (p : Piece) : AV := .node [.v (.int .i64 p.at_), .v (.int .i64 p.count), dv p.tree, .v (.string (mkS p.data)), .sl 32 (Dgs p.path)]
@[simp] theorem Piece.av_closed (q : Piece) : closed (Piece.av q) = true := by simp [Piece.av]
@[simp] theorem Piece.av_solid (q : Piece) : (Piece.av q).solid = true := by simp [Piece.av]
@[simp] theorem Piece.av_agg (q : Piece) : (Piece.av q).isAgg = true := by simp [Piece.av]
@[simp] theorem Piece.av_size (q : Piece) : (Piece.av q).size = 36 := by simp [Piece.av]
@[simp] theorem Piece.av_sub (q : Piece) : sub true 36 (Piece.av q) 0 = some (Piece.av q) := by simp [Piece.av]
@[simp] theorem Piece.av_good {M : List (Nat × Loc)} (q : Piece) : goodA false M (Piece.av q) = true := goodA_closed (Piece.av_closed q)
@[simp] theorem Piece.av_pairs (q : Piece) : pairsA (Piece.av q) (Piece.av q) = [] := pairsA_closed (Piece.av_closed q)
@[simp] theorem Piece.av_ren {L : Names} {nb gn : Nat} (q : Piece) : renA L nb gn (Piece.av q) = Piece.av q := renA_closed (Piece.av_closed q)
@[simp] theorem Piece.av_fit {m : Nat → Option Loc} {L : Names} (q : Piece) : Fit m L (Piece.av q) (Piece.av q) = True := Fit_closed (Piece.av_closed q)
@[simp] theorem Piece.av_fitR {m : Nat → Option Loc} {L : Names} (q : Piece) : FitR m L (Piece.av q) (Piece.av q) = True := FitR_closed (Piece.av_closed q)
@[simp] theorem Piece.av_touch {m : Nat → Option Loc} (q : Piece) : touch m (Piece.av q) (Piece.av q) = [] := touch_closed (Piece.av_closed q)
@[simp] theorem Piece.av_touchR {m : Nat → Option Loc} (q : Piece) : touchR m (Piece.av q) (Piece.av q) = [] := touchR_closed (Piece.av_closed q)
@[simp] theorem Piece.av_stamped {U : Nat → Prop} (q : Piece) : Stamped U (Piece.av q) = True := Stamped_closed (Piece.av_closed q)
@[simp] theorem Piece.av_tup (q : Piece) : (Piece.av q).isTup = false := isTup_closed (Piece.av_closed q)
@[simp] theorem Piece.av_ref (q : Piece) : refOf (Piece.av q) = none := refOf_closed (Piece.av_closed q)
@[simp] theorem Piece.av_put (q : Piece) (x : AV) : putAt true 36 x (Piece.av q) 0 = some x := by simp [Piece.av]
def Pcs (l : List Piece) : List AV := l.map Piece.av
@[simp] theorem Pcs_length (l : List Piece) : (Pcs l).length = l.length := by simp [Pcs]
@[simp] theorem Pcs_closed (l : List Piece) : closeds (Pcs l) = true := by simp [Pcs, closeds_all]
@[simp] theorem Pcs_get (n : Nat) (l : List Piece) : (Pcs l)[n]? = (l[n]?).map Piece.av := by simp [Pcs]
@[simp] theorem Pcs_getElem (n : Nat) (l : List Piece) (h : n < (Pcs l).length) : (Pcs l)[n] = Piece.av (l[n]'(by simpa [Pcs] using h)) := by simp [Pcs]
@[simp] theorem Pcs_append (a b : List Piece) : Pcs a ++ Pcs b = Pcs (a ++ b) := by simp [Pcs]
@[simp] theorem Pcs_drop (n : Nat) (a : List Piece) : (Pcs a).drop n = Pcs (a.drop n) := by simp [Pcs]
@[simp] theorem Pcs_take (n : Nat) (a : List Piece) : (Pcs a).take n = Pcs (a.take n) := by simp [Pcs]
@[simp] theorem Pcs_nil : Pcs [] = [] := (rfl)
structure Mail where
  kind : Int
  plan : Plan
  vote : Vote
  req : Req
  rep : Rep
  height : Int
  blk : Blk
  cert : Cert
  links : List Lnk
  pieces : List Piece
def Mail.zero : Mail := ⟨0, Plan.zero, Vote.zero, Req.zero, Rep.zero, 0, Blk.zero, Cert.zero, [], []⟩
def Mail.av (m : Mail) : AV := .node [.v (.int .i64 m.kind), m.plan.av, m.vote.av, m.req.av, m.rep.avS, .v (.int .i64 m.height), m.blk.avS, m.cert.av, .sl 103 (Lnks m.links), .sl 36 (Pcs m.pieces)]
@[simp] theorem Mail.av_closed (q : Mail) : closed (Mail.av q) = true := by simp [Mail.av]
@[simp] theorem Mail.av_solid (q : Mail) : (Mail.av q).solid = true := by simp [Mail.av]
@[simp] theorem Mail.av_agg (q : Mail) : (Mail.av q).isAgg = true := by simp [Mail.av]
@[simp] theorem Mail.av_size (q : Mail) : (Mail.av q).size = 300 := by simp [Mail.av]
@[simp] theorem Mail.av_sub (q : Mail) : sub true 300 (Mail.av q) 0 = some (Mail.av q) := by simp [Mail.av]
@[simp] theorem Mail.av_good {M : List (Nat × Loc)} (q : Mail) : goodA false M (Mail.av q) = true := goodA_closed (Mail.av_closed q)
@[simp] theorem Mail.av_pairs (q : Mail) : pairsA (Mail.av q) (Mail.av q) = [] := pairsA_closed (Mail.av_closed q)
@[simp] theorem Mail.av_ren {L : Names} {nb gn : Nat} (q : Mail) : renA L nb gn (Mail.av q) = Mail.av q := renA_closed (Mail.av_closed q)
@[simp] theorem Mail.av_fit {m : Nat → Option Loc} {L : Names} (q : Mail) : Fit m L (Mail.av q) (Mail.av q) = True := Fit_closed (Mail.av_closed q)
@[simp] theorem Mail.av_fitR {m : Nat → Option Loc} {L : Names} (q : Mail) : FitR m L (Mail.av q) (Mail.av q) = True := FitR_closed (Mail.av_closed q)
@[simp] theorem Mail.av_touch {m : Nat → Option Loc} (q : Mail) : touch m (Mail.av q) (Mail.av q) = [] := touch_closed (Mail.av_closed q)
@[simp] theorem Mail.av_touchR {m : Nat → Option Loc} (q : Mail) : touchR m (Mail.av q) (Mail.av q) = [] := touchR_closed (Mail.av_closed q)
@[simp] theorem Mail.av_stamped {U : Nat → Prop} (q : Mail) : Stamped U (Mail.av q) = True := Stamped_closed (Mail.av_closed q)
@[simp] theorem Mail.av_tup (q : Mail) : (Mail.av q).isTup = false := isTup_closed (Mail.av_closed q)
@[simp] theorem Mail.av_ref (q : Mail) : refOf (Mail.av q) = none := refOf_closed (Mail.av_closed q)
@[simp] theorem Mail.av_put (q : Mail) (x : AV) : putAt true 300 x (Mail.av q) 0 = some x := by simp [Mail.av]

def linksF : Fmt (List Lnk) := cntF 0 1024 (fun _ => linkF)
def piecesF : Fmt (List Piece) := cntF 0 1024 (fun _ => pieceF)
def Mail.body (m : Mail) : Bytes :=
  if m.kind = 1 then planF.wr m.plan else if m.kind = 2 then voteF.wr m.vote else if m.kind = 3 then m.req.bytes else if m.kind = 4 then be8 m.height ++ m.rep.bytes else if m.kind = 5 then m.blk.bytes ++ m.cert.bytes
  else if m.kind = 6 then be8 m.height else if m.kind = 8 then linksF.wr m.links else if m.kind = 9 then m.blk.bytes ++ m.cert.bytes ++ piecesF.wr m.pieces else []
/-- Whether it can be written. -/
def Mail.ok (m : Mail) : Bool :=
  if m.kind = 1 then m.plan.sig.ok else if m.kind = 2 then m.vote.sig.ok else if m.kind = 5 then m.cert.ok else if m.kind = 8 then m.links.all (fun l => l.cert.ok) else if m.kind = 9 then m.cert.ok else true
def Mail.bytes (m : Mail) : Bytes := be8 m.kind ++ m.body
end Go.Proofs.YtglkfbhjimnboaaDoor.WL

end
section
/-
  CHAPTER 05: arguments that come in.
-/
namespace Go.Proofs.YtglkfbhjimnboaaDoor.WL
open Go

abbrev Ty.dgs : Ty := .sl 32 32 Ty.dg
abbrev Ty.sig : Ty := .st [.int .i64, .st [Ty.dgs, Ty.dgs], Ty.dgs]
theorem ty_sig {a : AV} (h : TyOk Ty.sig a) : ∃ s : Sig, a = s.avS ∧ W64 s.leaf := by
  obtain ⟨a1, a2, a3, rfl, h1, h2, h3⟩ := ty_st3 h
  obtain ⟨n1, rfl, w1⟩ := ty_int h1
  obtain ⟨b1, b2, rfl, g1, g2⟩ := ty_st2 h2
  obtain ⟨o, rfl, _⟩ := ty_dgs g1
  obtain ⟨s, rfl, _⟩ := ty_dgs g2
  obtain ⟨p, rfl, _⟩ := ty_dgs h3
  exact ⟨⟨n1, o, s, p⟩, rfl, w1⟩
structure KeyD where
  root : Dg
  height : Int
def KeyD.av (k : KeyD) : AV := .node [dv k.root, .v (.int .i64 k.height)]
abbrev Ty.key : Ty := .st [Ty.dg, .int .i64]
end Go.Proofs.YtglkfbhjimnboaaDoor.WL

end
section
/-
  CHAPTER 09: arguments that come in.
-/
namespace Go.Proofs.YtglkfbhjimnboaaDoor.WL
open Go

abbrev Ty.chg : Ty := .st [.int .i64, .int .i64, .int .i64, .st [Ty.dg, .int .i64]]
abbrev Ty.req : Ty := .st [.int .i64, .int .i64, .st [.int .i64, .str, .str, .str, Ty.chg]]
/-- What is known of a request that comes in. -/
structure Req.In (q : Req) : Prop where
  client : W64 q.client
  num : W64 q.num
  kind : W64 q.kind
  ckind : W64 q.ch.kind
  cid : W64 q.ch.id
  cnew : W64 q.ch.new
  cheight : W64 q.ch.height
  key : q.key.length ≤ reachBytes
  val : q.val.length ≤ reachBytes
  old : q.old.length ≤ reachBytes
abbrev Ty.rep : Ty := .st [.int .i64, .int .i64, .int .i64, .sl 1 16 .str]
end Go.Proofs.YtglkfbhjimnboaaDoor.WL

end
section
/-
  CHAPTER 12: arguments that come in.
-/
namespace Go.Proofs.YtglkfbhjimnboaaDoor.WL
open Go

abbrev Ty.blk : Ty := .st [.int .i64, .int .i64, Ty.dg, Ty.dg, Ty.dg, .sl 42 136 Ty.req]
/-- What is known of a block that comes in. -/
structure Blk.In (b : Blk) : Prop where
  epoch : W64 b.epoch
  height : W64 b.height
  len : b.qs.length * 136 ≤ reachBytes
  qs : ∀ q ∈ b.qs, q.In
theorem Blk.In.texts {b : Blk} (h : b.In) : ∀ q ∈ b.qs, q.key.length ≤ reachBytes ∧ q.val.length ≤ reachBytes ∧ q.old.length ≤ reachBytes :=
  fun q hq => ⟨(h.qs q hq).key, (h.qs q hq).val, (h.qs q hq).old⟩
end Go.Proofs.YtglkfbhjimnboaaDoor.WL

end
section
/-
  CHAPTERS 13, 08, 14, 15, 20: arguments that come in.
-/
namespace Go.Proofs.YtglkfbhjimnboaaDoor.WL
open Go

theorem ty_list {α : Type} {e : Ty} {sz bytes : Nat} {f : α → AV} {p : α → Prop} (he : ∀ a, TyOk e a → ∃ x, a = f x ∧ p x) {a : AV} (h : TyOk (.sl sz bytes e) a) : ∃ xs : List α, a = .sl sz (xs.map f) ∧ xs.length * bytes ≤ reachBytes ∧ ∀ x ∈ xs, p x := by
  obtain ⟨xs, rfl, ⟨_, h1⟩, h2⟩ := ty_sl h
  obtain ⟨ns, rfl, h3⟩ := map_of_all (f := f) (p := p) fun x hx => he x (h2 x hx)
  exact ⟨ns, rfl, by simpa using h1, h3⟩

abbrev Ty.vote : Ty := .st [.int .i64, .int .i64, .int .i64, .int .i64, Ty.dg, .int .i64, Ty.sig]
structure Vote.In (v : Vote) : Prop where
  kind : W64 v.kind
  epoch : W64 v.epoch
  height : W64 v.height
  round : W64 v.round
  src : W64 v.src
  leaf : W64 v.sig.leaf
theorem ty_vote {a : AV} (h : TyOk Ty.vote a) : ∃ v : Vote, a = v.av ∧ v.In := by
  obtain ⟨a1, a2, a3, a4, a5, a6, a7, rfl, h1, h2, h3, h4, h5, h6, h7⟩ := ty_st7 h
  obtain ⟨n1, rfl, w1⟩ := ty_int h1
  obtain ⟨n2, rfl, w2⟩ := ty_int h2
  obtain ⟨n3, rfl, w3⟩ := ty_int h3
  obtain ⟨n4, rfl, w4⟩ := ty_int h4
  obtain ⟨d, rfl⟩ := ty_dg h5
  obtain ⟨n6, rfl, w6⟩ := ty_int h6
  obtain ⟨s, rfl, w7⟩ := ty_sig h7
  exact ⟨⟨n1, n2, n3, n4, d, n6, s⟩, rfl, w1, w2, w3, w4, w6, w7⟩
theorem ty_votes {a : AV} (h : TyOk (.sl 41 152 Ty.vote) a) : ∃ vs : List Vote, a = .sl 41 (Votes vs) ∧ vs.length * 152 ≤ reachBytes ∧ ∀ v ∈ vs, v.In := ty_list (fun _ => ty_vote) h
abbrev Ty.plan : Ty := .st [.int .i64, .int .i64, .int .i64, .int .i64, Ty.blk, .int .i64, Ty.sig]
structure Plan.In (p : Plan) : Prop where
  epoch : W64 p.epoch
  height : W64 p.height
  round : W64 p.round
  valid : W64 p.valid
  blk : p.blk.In
  src : W64 p.src
  leaf : W64 p.sig.leaf
abbrev Ty.mem : Ty := .st [.int .i64, .st [Ty.dg, .int .i64]]
def Mem.In (m : Mem) : Prop := W64 m.id ∧ W64 m.height
abbrev Ty.conf : Ty := .st [.int .i64, .sl 34 48 Ty.mem]
structure Conf.In (c : Conf) : Prop where
  epoch : W64 c.epoch
  len : c.ms.length * 48 ≤ reachBytes
  ms : ∀ m ∈ c.ms, m.In
abbrev Ty.cert : Ty := .st [.int .i64, .sl 41 152 Ty.vote]
structure Cert.In (c : Cert) : Prop where
  round : W64 c.round
  len : c.votes.length * 152 ≤ reachBytes
  votes : ∀ v ∈ c.votes, v.In
structure Lnk.In (l : Lnk) : Prop where
  blk : l.blk.In
  cert : l.cert.In
  conf : l.conf.In
abbrev Ty.piece : Ty := .st [.int .i64, .int .i64, Ty.dg, .str, Ty.dgs]
structure Piece.In (p : Piece) : Prop where
  at_ : W64 p.at_
  count : W64 p.count
  data : p.data.length ≤ reachBytes
  path : p.path.length ≤ reachBytes
structure Mail.In (m : Mail) : Prop where
  kind : W64 m.kind
  plan : m.plan.In
  vote : m.vote.In
  req : m.req.In
  rep : (W64 m.rep.client ∧ W64 m.rep.num ∧ W64 m.rep.code) ∧ ∀ v ∈ m.rep.vals, v.length ≤ reachBytes
  height : W64 m.height
  blk : m.blk.In
  cert : m.cert.In
  linksn : m.links.length * 200 ≤ reachBytes
  links : ∀ l ∈ m.links, l.In
  piecesn : m.pieces.length * 88 ≤ reachBytes
  pieces : ∀ p ∈ m.pieces, p.In
end Go.Proofs.YtglkfbhjimnboaaDoor.WL

end
