/- Texts put together: T13. -/
import Derived.Test.YtjlmpdbagmdbiaaDoorWm5
section
/-
  CHAPTERS 13, 08, 14, 15, 20: arguments that come in.
-/
namespace Go.Proofs.YtjlmpdbagmdbiaaDoor.WL
open Go

theorem ty_list {α : Type} {e : Ty} {sz bytes : Nat} {f : α → AV} {p : α → Prop} (he : ∀ a, TyOk e a → ∃ x, a = f x ∧ p x) {a : AV} (h : TyOk (.sl sz bytes e) a) : ∃ xs : List α, a = .sl sz (xs.map f) ∧ xs.length * bytes ≤ reachBytes ∧ ∀ x ∈ xs, p x := by
  obtain ⟨xs, rfl, ⟨_, h1⟩, h2⟩ := ty_sl h
  obtain ⟨ns, rfl, h3⟩ := map_of_all (f := f) (p := p) fun x hx => he x (h2 x hx)
  exact ⟨ns, rfl, by simpa using h1, h3⟩

abbrev Ty.vote : Ty := .st [.int .i64, .int .i64, .int .i64, .int .i64, Ty.dg, .int .i64, Ty.sig]
structure Vote.In (v : Vote) : Prop where
  kind : W64 v.kind
  epoch : W64 v.epoch
  height : W64 v.height
  round : W64 v.round
  src : W64 v.src
  leaf : W64 v.sig.leaf
theorem ty_vote {a : AV} (h : TyOk Ty.vote a) : ∃ v : Vote, a = v.av ∧ v.In := by
  obtain ⟨a1, a2, a3, a4, a5, a6, a7, rfl, h1, h2, h3, h4, h5, h6, h7⟩ := ty_st7 h
  obtain ⟨n1, rfl, w1⟩ := ty_int h1
  obtain ⟨n2, rfl, w2⟩ := ty_int h2
  obtain ⟨n3, rfl, w3⟩ := ty_int h3
  obtain ⟨n4, rfl, w4⟩ := ty_int h4
  obtain ⟨d, rfl⟩ := ty_dg h5
  obtain ⟨n6, rfl, w6⟩ := ty_int h6
  obtain ⟨s, rfl, w7⟩ := ty_sig h7
  exact ⟨⟨n1, n2, n3, n4, d, n6, s⟩, rfl, w1, w2, w3, w4, w6, w7⟩
abbrev Ty.plan : Ty := .st [.int .i64, .int .i64, .int .i64, .int .i64, Ty.blk, .int .i64, Ty.sig]
structure Plan.In (p : Plan) : Prop where
  epoch : W64 p.epoch
  height : W64 p.height
  round : W64 p.round
  valid : W64 p.valid
  blk : p.blk.In
  src : W64 p.src
  leaf : W64 p.sig.leaf
abbrev Ty.mem : Ty := .st [.int .i64, .st [Ty.dg, .int .i64]]
def Mem.In (m : Mem) : Prop := W64 m.id ∧ W64 m.height
theorem ty_mem {a : AV} (h : TyOk Ty.mem a) : ∃ m : Mem, a = m.av ∧ m.In := by
  obtain ⟨a1, a2, rfl, h1, h2⟩ := ty_st2 h
  obtain ⟨n, rfl, w1⟩ := ty_int h1
  obtain ⟨b1, b2, rfl, g1, g2⟩ := ty_st2 h2
  obtain ⟨d, rfl⟩ := ty_dg g1
  obtain ⟨k, rfl, w2⟩ := ty_int g2
  exact ⟨⟨n, d, k⟩, rfl, w1, w2⟩
abbrev Ty.conf : Ty := .st [.int .i64, .sl 34 48 Ty.mem]
structure Conf.In (c : Conf) : Prop where
  epoch : W64 c.epoch
  len : c.ms.length * 48 ≤ reachBytes
  ms : ∀ m ∈ c.ms, m.In
theorem ty_conf {a : AV} (h : TyOk Ty.conf a) : ∃ c : Conf, a = c.av ∧ c.In := by
  obtain ⟨a1, a2, rfl, h1, h2⟩ := ty_st2 h
  obtain ⟨n, rfl, w1⟩ := ty_int h1
  obtain ⟨ms, rfl, l, hm⟩ := ty_list (fun _ => ty_mem) h2
  exact ⟨⟨n, ms⟩, rfl, w1, l, hm⟩
abbrev Ty.cert : Ty := .st [.int .i64, .sl 41 152 Ty.vote]
structure Cert.In (c : Cert) : Prop where
  round : W64 c.round
  len : c.votes.length * 152 ≤ reachBytes
  votes : ∀ v ∈ c.votes, v.In
theorem ty_cert {a : AV} (h : TyOk Ty.cert a) : ∃ c : Cert, a = c.av ∧ c.In := by
  obtain ⟨a1, a2, rfl, h1, h2⟩ := ty_st2 h
  obtain ⟨n, rfl, w1⟩ := ty_int h1
  obtain ⟨vs, rfl, l, hm⟩ := ty_list (fun _ => ty_vote) h2
  exact ⟨⟨n, vs⟩, rfl, w1, l, hm⟩
abbrev Ty.link : Ty := .st [Ty.blk, Ty.cert, Ty.conf]
structure Lnk.In (l : Lnk) : Prop where
  blk : l.blk.In
  cert : l.cert.In
  conf : l.conf.In
theorem ty_link {a : AV} (h : TyOk Ty.link a) : ∃ l : Lnk, a = l.av ∧ l.In := by
  obtain ⟨a1, a2, a3, rfl, h1, h2, h3⟩ := ty_st3 h
  obtain ⟨b, rfl, w1⟩ := ty_blk h1
  obtain ⟨c, rfl, w2⟩ := ty_cert h2
  obtain ⟨d, rfl, w3⟩ := ty_conf h3
  exact ⟨⟨b, c, d⟩, rfl, w1, w2, w3⟩
theorem ty_links {a : AV} (h : TyOk (.sl 103 200 Ty.link) a) : ∃ ls : List Lnk, a = .sl 103 (Lnks ls) ∧ ls.length * 200 ≤ reachBytes ∧ ∀ l ∈ ls, l.In := ty_list (fun _ => ty_link) h
abbrev Ty.piece : Ty := .st [.int .i64, .int .i64, Ty.dg, .str, Ty.dgs]
structure Piece.In (p : Piece) : Prop where
  at_ : W64 p.at_
  count : W64 p.count
  data : p.data.length ≤ reachBytes
  path : p.path.length ≤ reachBytes
structure Mail.In (m : Mail) : Prop where
  kind : W64 m.kind
  plan : m.plan.In
  vote : m.vote.In
  req : m.req.In
  rep : (W64 m.rep.client ∧ W64 m.rep.num ∧ W64 m.rep.code) ∧ ∀ v ∈ m.rep.vals, v.length ≤ reachBytes
  height : W64 m.height
  blk : m.blk.In
  cert : m.cert.In
  linksn : m.links.length * 200 ≤ reachBytes
  links : ∀ l ∈ m.links, l.In
  piecesn : m.pieces.length * 88 ≤ reachBytes
  pieces : ∀ p ∈ m.pieces, p.In
end Go.Proofs.YtjlmpdbagmdbiaaDoor.WL

end
