/-
  CHAPTER 12: arguments that come in.
-/
import Derived.Test.YtmdjimkndeklmaaDoorT09
import Derived.Test.YtmdjimkndeklmaaDoorP12
namespace Go.Proofs.YtmdjimkndeklmaaDoor.WL
open Go

abbrev Ty.blk : Ty := .st [.int .i64, .int .i64, Ty.dg, Ty.dg, Ty.dg, .sl 42 136 Ty.req]
theorem ty_reqs {a : AV} (h : TyOk (.sl 42 136 Ty.req) a) : ∃ qs : List Req, a = .sl 42 (Reqs qs) ∧ qs.length * 136 ≤ reachBytes ∧ ∀ q ∈ qs, q.In := by
  obtain ⟨xs, rfl, ⟨_, h1⟩, h2⟩ := h
  obtain ⟨ns, rfl, h3⟩ := map_of_all (f := Req.av) (p := fun q => q.In) fun x hx => ty_req (h2 x hx)
  exact ⟨ns, rfl, by simpa using h1, h3⟩
/-- What is known of a block that comes in. -/
structure Blk.In (b : Blk) : Prop where
  epoch : W64 b.epoch
  height : W64 b.height
  len : b.qs.length * 136 ≤ reachBytes
  qs : ∀ q ∈ b.qs, q.In
theorem ty_blk {a : AV} (h : TyOk Ty.blk a) : ∃ b : Blk, a = b.avS ∧ b.In := by
  obtain ⟨a1, a2, a3, a4, a5, a6, rfl, h1, h2, h3, h4, h5, h6⟩ := ty_st6 h
  obtain ⟨n1, rfl, w1⟩ := ty_int h1
  obtain ⟨n2, rfl, w2⟩ := ty_int h2
  obtain ⟨d1, rfl⟩ := ty_dg h3
  obtain ⟨d2, rfl⟩ := ty_dg h4
  obtain ⟨d3, rfl⟩ := ty_dg h5
  obtain ⟨qs, rfl, l, hq⟩ := ty_reqs h6
  exact ⟨⟨n1, n2, d1, d2, d3, qs⟩, rfl, w1, w2, l, hq⟩
theorem Blk.In.texts {b : Blk} (h : b.In) : ∀ q ∈ b.qs, q.key.length ≤ reachBytes ∧ q.val.length ≤ reachBytes ∧ q.old.length ≤ reachBytes :=
  fun q hq => ⟨(h.qs q hq).key, (h.qs q hq).val, (h.qs q hq).old⟩
end Go.Proofs.YtmdjimkndeklmaaDoor.WL
