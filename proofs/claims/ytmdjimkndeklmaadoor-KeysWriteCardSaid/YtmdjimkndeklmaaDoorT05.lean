/-
  CHAPTER 05: arguments that come in.
-/
import Derived.Test.YtmdjimkndeklmaaDoorP05
namespace Go.Proofs.YtmdjimkndeklmaaDoor.WL
open Go

abbrev Ty.dgs : Ty := .sl 32 32 Ty.dg
abbrev Ty.sig : Ty := .st [.int .i64, .st [Ty.dgs, Ty.dgs], Ty.dgs]
theorem ty_sig {a : AV} (h : TyOk Ty.sig a) : ∃ s : Sig, a = s.avS ∧ W64 s.leaf := by
  obtain ⟨a1, a2, a3, rfl, h1, h2, h3⟩ := ty_st3 h
  obtain ⟨n1, rfl, w1⟩ := ty_int h1
  obtain ⟨b1, b2, rfl, g1, g2⟩ := ty_st2 h2
  obtain ⟨o, rfl, _⟩ := ty_dgs g1
  obtain ⟨s, rfl, _⟩ := ty_dgs g2
  obtain ⟨p, rfl, _⟩ := ty_dgs h3
  exact ⟨⟨n1, o, s, p⟩, rfl, w1⟩
structure KeyD where
  root : Dg
  height : Int
def KeyD.av (k : KeyD) : AV := .node [dv k.root, .v (.int .i64 k.height)]
abbrev Ty.key : Ty := .st [Ty.dg, .int .i64]
theorem ty_key {a : AV} (h : TyOk Ty.key a) : ∃ k : KeyD, a = k.av ∧ W64 k.height := by
  obtain ⟨a1, a2, rfl, h1, h2⟩ := ty_st2 h
  obtain ⟨d, rfl⟩ := ty_dg h1
  obtain ⟨n, rfl, w⟩ := ty_int h2
  exact ⟨⟨d, n⟩, rfl, w⟩
end Go.Proofs.YtmdjimkndeklmaaDoor.WL
