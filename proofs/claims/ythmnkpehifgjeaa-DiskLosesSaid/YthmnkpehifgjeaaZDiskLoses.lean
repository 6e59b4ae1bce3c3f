/- The law DiskLoses of the given program (wapentake/wapentakelaw16.DiskLoses) returns true for every input, and each argument reads behind the call as it read before.
   Conditions: none beyond the given statement's own. -/
import Derived.Test.YthmnkpehifgjeaaRows
import Derived.Test.YthmnkpehifgjeaaWm8
namespace Go.Proofs.Ythmnkpehifgjeaa
open Go.ChangeShapes Go.WideShapes Go.ChangeAt Go.RowKit WL

theorem own : ownKnob Try.prog.godebug = none := by kernel_rfl
theorem laidOut : laidOutB Try.prog = true := by kernel_rfl

theorem diskLoses_all (avs : List AV) (h : All2 (fun t a => Typed Try.prog 9 t a) Try.f3.params.toList avs) : Meets Try.prog (fun _ => none) 3 avs [] true (.v (.bool true)) [] := by
  have h := tys_ok [.sl 1 24 Ty.bytes, .sl 1 1 .bool, .int .i64, .int .i64] 9 _ _ (by kernel_rfl) h
  obtain ⟨v1, _, rfl, k1, h⟩ := tys_cons h
  obtain ⟨v2, _, rfl, k2, h⟩ := tys_cons h
  obtain ⟨v3, _, rfl, k3, h⟩ := tys_cons h
  obtain ⟨v4, _, rfl, k4, h⟩ := tys_cons h
  obtain rfl := tys_nil h
  obtain ⟨a1, rfl, h1, h1b⟩ := ty_byts k1
  obtain ⟨a2, rfl, h2⟩ := ty_bools k2
  obtain ⟨a3, rfl, h3⟩ := ty_int k3
  obtain ⟨a4, rfl, h4⟩ := ty_int k4
  exact diskLoses_walk a1 a2 a3 a4 h3 h1 h1b

set_option maxRecDepth 100000 in
theorem diskLoses_lifted (os : Os) (started : os.Started) (H : Type) (enc : TypeId × Value → H) :
    ReturnsInHanded {} Try.checked os 3 .any (Rows.diskLosesSpec.pre6 enc Try.prog Try.f3 Rows.diskLosesRow.domain false) (Rows.diskLosesSpec.post enc Try.prog Try.f3 false true false false) := by
  refine returnsInHanded_of_change_sized (C := Try.checked) own started (by kernel_rfl) Try.func3
    (ChangeSpec.witness6 (enc := enc) (C := Try.checked) false ⟨#[], #[.slice none 0 0, .slice none 0 0, .int .i64 0, .int .i64 0], []⟩ 8 (by kernel_rfl) (by kernel_rfl) (by kernel_rfl) (by kernel_rfl)) ?_
  intro W base args ds gs before hval hW _ hwt _
  exact law_calls (n := 9) (tb := 4) laidOut (by kernel_rfl) (by kernel_rfl) Try.underlying4 rfl (fun ds hds => by
    match ds, hds with
    | [d1, d2, d3, d4], _ => rfl) diskLoses_all hval hwt hW

theorem diskLoses_holds : Rows.DiskLosesSaid :=
  OpenClaim.holds_of_wide 3 Try.f3 rfl rfl rfl rfl rfl rfl rfl ⟨rfl, rfl, rfl, rfl, rfl⟩ rfl rfl rfl rfl rfl (by kernel_rfl) Try.func3 (by kernel_rfl)
    (of_decide_eq_true (by kernel_rfl)) (by unfold Func.isWrapper; first | (rw [if_pos (by decide +kernel)]; kernel_rfl) | (rw [if_neg (by decide +kernel)]; exact ⟨rfl, rfl⟩))
    (fun os started H enc _ => diskLoses_lifted os started H enc)

#print axioms diskLoses_holds
end Go.Proofs.Ythmnkpehifgjeaa
