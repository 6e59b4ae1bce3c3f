/- The law DiskApart of the given program (wapentake/wapentakelaw16.DiskApart) returns true for every input, and each argument reads behind the call as it read before.
   Conditions: none beyond the given statement's own. -/
import Derived.Test.YthmnkpehifgjeaaRows
import Derived.Test.YthmnkpehifgjeaaWm7
namespace Go.Proofs.Ythmnkpehifgjeaa
open Go.ChangeShapes Go.WideShapes Go.ChangeAt Go.RowKit WL

theorem own : ownKnob Try.prog.godebug = none := by kernel_rfl
theorem laidOut : laidOutB Try.prog = true := by kernel_rfl

theorem diskApart_all (avs : List AV) (h : All2 (fun t a => Typed Try.prog 9 t a) Try.f7.params.toList avs) : Meets Try.prog (fun _ => none) 7 avs [] true (.v (.bool true)) [] := by
  have h := tys_ok [Ty.bytes, Ty.bytes, Ty.bytes] 9 _ _ (by kernel_rfl) h
  obtain ⟨v1, _, rfl, k1, h⟩ := tys_cons h
  obtain ⟨v2, _, rfl, k2, h⟩ := tys_cons h
  obtain ⟨v3, _, rfl, k3, h⟩ := tys_cons h
  obtain rfl := tys_nil h
  obtain ⟨a1, rfl, h1⟩ := ty_bytes k1
  obtain ⟨a2, rfl, h2⟩ := ty_bytes k2
  obtain ⟨a3, rfl, h3⟩ := ty_bytes k3
  exact diskApart_walk a1 a2 a3

set_option maxRecDepth 100000 in
theorem diskApart_lifted (os : Os) (started : os.Started) (H : Type) (enc : TypeId × Value → H) :
    ReturnsInHanded {} Try.checked os 7 .any (Rows.diskApartSpec.pre6 enc Try.prog Try.f7 Rows.diskApartRow.domain false) (Rows.diskApartSpec.post enc Try.prog Try.f7 false true false false) := by
  refine returnsInHanded_of_change_sized (C := Try.checked) own started (by kernel_rfl) Try.func7
    (ChangeSpec.witness6 (enc := enc) (C := Try.checked) false ⟨#[], #[.slice none 0 0, .slice none 0 0, .slice none 0 0], []⟩ 8 (by kernel_rfl) (by kernel_rfl) (by kernel_rfl) (by kernel_rfl)) ?_
  intro W base args ds gs before hval hW _ hwt _
  exact law_calls (n := 9) (tb := 4) laidOut (by kernel_rfl) (by kernel_rfl) Try.underlying4 rfl (fun ds hds => by
    match ds, hds with
    | [d1, d2, d3], _ => rfl) diskApart_all hval hwt hW

theorem diskApart_holds : Rows.DiskApartSaid :=
  OpenClaim.holds_of_wide 7 Try.f7 rfl rfl rfl rfl rfl rfl rfl ⟨rfl, rfl, rfl, rfl, rfl⟩ rfl rfl rfl rfl rfl (by kernel_rfl) Try.func7 (by kernel_rfl)
    (of_decide_eq_true (by kernel_rfl)) (by unfold Func.isWrapper; first | (rw [if_pos (by decide +kernel)]; kernel_rfl) | (rw [if_neg (by decide +kernel)]; exact ⟨rfl, rfl⟩))
    (fun os started H enc _ => diskApart_lifted os started H enc)

#print axioms diskApart_holds
end Go.Proofs.Ythmnkpehifgjeaa
