/-
  CHAPTER 09: arguments that come in.
-/
import Derived.Test.YtmdjimkndeklmaaDoorP09
namespace Go.Proofs.YtmdjimkndeklmaaDoor.WL
open Go

abbrev Ty.chg : Ty := .st [.int .i64, .int .i64, .int .i64, .st [Ty.dg, .int .i64]]
abbrev Ty.req : Ty := .st [.int .i64, .int .i64, .st [.int .i64, .str, .str, .str, Ty.chg]]
theorem ty_chg {a : AV} (h : TyOk Ty.chg a) : ∃ c : Chg, a = c.av ∧ W64 c.kind ∧ W64 c.id ∧ W64 c.new ∧ W64 c.height := by
  obtain ⟨a1, a2, a3, a4, rfl, h1, h2, h3, h4⟩ := ty_st4 h
  obtain ⟨n1, rfl, w1⟩ := ty_int h1
  obtain ⟨n2, rfl, w2⟩ := ty_int h2
  obtain ⟨n3, rfl, w3⟩ := ty_int h3
  obtain ⟨b1, b2, rfl, g1, g2⟩ := ty_st2 h4
  obtain ⟨d, rfl⟩ := ty_dg g1
  obtain ⟨n4, rfl, w4⟩ := ty_int g2
  exact ⟨⟨n1, n2, n3, d, n4⟩, rfl, w1, w2, w3, w4⟩
/-- What is known of a request that comes in. -/
structure Req.In (q : Req) : Prop where
  client : W64 q.client
  num : W64 q.num
  kind : W64 q.kind
  ckind : W64 q.ch.kind
  cid : W64 q.ch.id
  cnew : W64 q.ch.new
  cheight : W64 q.ch.height
  key : q.key.length ≤ reachBytes
  val : q.val.length ≤ reachBytes
  old : q.old.length ≤ reachBytes
theorem ty_req {a : AV} (h : TyOk Ty.req a) : ∃ q : Req, a = q.av ∧ q.In := by
  obtain ⟨a1, a2, a3, rfl, h1, h2, h3⟩ := ty_st3 h
  obtain ⟨n1, rfl, w1⟩ := ty_int h1
  obtain ⟨n2, rfl, w2⟩ := ty_int h2
  obtain ⟨b1, b2, b3, b4, b5, rfl, g1, g2, g3, g4, g5⟩ := ty_st5 h3
  obtain ⟨n3, rfl, w3⟩ := ty_int g1
  obtain ⟨s1, rfl, l1⟩ := ty_str g2
  obtain ⟨s2, rfl, l2⟩ := ty_str g3
  obtain ⟨s3, rfl, l3⟩ := ty_str g4
  obtain ⟨c, rfl, x1, x2, x3, x4⟩ := ty_chg g5
  exact ⟨⟨n1, n2, n3, s1, s2, s3, c⟩, rfl, w1, w2, w3, x1, x2, x3, x4, l1, l2, l3⟩
abbrev Ty.rep : Ty := .st [.int .i64, .int .i64, .int .i64, .sl 1 16 .str]
theorem ty_rep {a : AV} (h : TyOk Ty.rep a) : ∃ q : Rep, a = q.avS ∧ (W64 q.client ∧ W64 q.num ∧ W64 q.code) ∧ ∀ v ∈ q.vals, v.length ≤ reachBytes := by
  obtain ⟨a1, a2, a3, a4, rfl, h1, h2, h3, h4⟩ := ty_st4 h
  obtain ⟨n1, rfl, w1⟩ := ty_int h1
  obtain ⟨n2, rfl, w2⟩ := ty_int h2
  obtain ⟨n3, rfl, w3⟩ := ty_int h3
  obtain ⟨ss, rfl, hs⟩ := ty_strs h4
  exact ⟨⟨n1, n2, n3, ss⟩, rfl, ⟨w1, w2, w3⟩, hs.2⟩
end Go.Proofs.YtmdjimkndeklmaaDoor.WL
