/- The law CodeOne of the given program (wapentake/wapentakelaw01.CodeOne) returns true for every input, and each argument reads behind the call as it read before.
   Conditions: none beyond the given statement's own. -/
import Derived.Test.YtngemgmnpcaamaaRows
import Derived.Test.YtngemgmnpcaamaaL01c
namespace Go.Proofs.Ytngemgmnpcaamaa
open Go.ChangeShapes Go.WideShapes Go.ChangeAt Go.RowKit WL

theorem own : ownKnob Try.prog.godebug = none := by kernel_rfl
theorem laidOut : laidOutB Try.prog = true := by kernel_rfl

theorem codeOne_all (avs : List AV) (h : All2 (fun t a => Typed Try.prog 9 t a) Try.f9.params.toList avs) : Meets Try.prog (fun _ => none) 9 avs [] true (.v (.bool true)) [] := by
  have h := tys_ok [Ty.bytes, Ty.parts] 9 _ _ (by kernel_rfl) h
  obtain ⟨v1, _, rfl, k1, h⟩ := tys_cons h
  obtain ⟨v2, _, rfl, k2, h⟩ := tys_cons h
  obtain rfl := tys_nil h
  obtain ⟨a1, rfl, h1⟩ := ty_bytes k1
  obtain ⟨a2, rfl, h2⟩ := ty_parts k2
  exact one_meets a1 a2

theorem codeOne_lifted (os : Os) (started : os.Started) (H : Type) (enc : TypeId × Value → H) :
    ReturnsInHanded {} Try.checked os 9 .any (Rows.codeOneSpec.pre6 enc Try.prog Try.f9 Rows.codeOneRow.domain false) (Rows.codeOneSpec.post enc Try.prog Try.f9 false true false false) := by
  refine returnsInHanded_of_change_sized (C := Try.checked) own started (by kernel_rfl) Try.func9
    (ChangeSpec.witness6 (enc := enc) (C := Try.checked) false ⟨#[], #[.slice none 0 0, .slice none 0 0], []⟩ 8 (by kernel_rfl) (by kernel_rfl) (by kernel_rfl) (by kernel_rfl)) ?_
  intro W base args ds gs before hval hW _ hwt _
  exact law_calls (n := 9) (tb := 4) laidOut (by kernel_rfl) (by kernel_rfl) Try.underlying4 rfl (fun ds hds => by
    match ds, hds with
    | [d1, d2], _ => rfl) codeOne_all hval hwt hW

theorem codeOne_holds : Rows.CodeOneSaid :=
  OpenClaim.holds_of_wide 9 Try.f9 rfl rfl rfl rfl rfl rfl rfl ⟨rfl, rfl, rfl, rfl, rfl⟩ rfl rfl rfl rfl rfl (by kernel_rfl) Try.func9 (by kernel_rfl)
    (of_decide_eq_true (by kernel_rfl)) (by unfold Func.isWrapper; first | (rw [if_pos (by decide +kernel)]; kernel_rfl) | (rw [if_neg (by decide +kernel)]; exact ⟨rfl, rfl⟩))
    (fun os started H enc _ => codeOne_lifted os started H enc)

#print axioms codeOne_holds
end Go.Proofs.Ytngemgmnpcaamaa
