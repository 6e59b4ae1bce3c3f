/-
  CHAPTER 04: arguments that come in.
-/
import Derived.Test.YtmkkfccnacodoaaDoorP01b
namespace Go.Proofs.YtmkkfccnacodoaaDoor.WL
open Go

abbrev Ty.once : Ty := .st [.sl 32 32 Ty.dg, .sl 32 32 Ty.dg]
theorem ty_once {a : AV} (h : TyOk Ty.once a) : ∃ s : List Dg × List Dg, a = .node [.sl 32 (Dgs s.1), .sl 32 (Dgs s.2)] ∧ True := by
  obtain ⟨b1, b2, rfl, g1, g2⟩ := ty_st2 h
  obtain ⟨o, rfl, _⟩ := ty_dgs g1
  obtain ⟨s, rfl, _⟩ := ty_dgs g2
  exact ⟨(o, s), rfl, trivial⟩
end Go.Proofs.YtmkkfccnacodoaaDoor.WL
