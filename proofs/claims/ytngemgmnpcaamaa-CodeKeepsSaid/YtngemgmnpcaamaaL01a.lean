/- The law CodeKeeps of the given program returns true for every input, and each argument reads behind the call as it read before.
   Conditions: none beyond the given statement's own. -/
import Derived.Test.YtngemgmnpcaamaaRows
import Derived.Test.YtngemgmnpcaamaaS01k
namespace Go.Proofs.Ytngemgmnpcaamaa
open Go.ChangeShapes Go.WideShapes Go.ChangeAt Go.RowKit WL

theorem own : ownKnob Try.prog.godebug = none := by kernel_rfl
theorem laidOut : laidOutB Try.prog = true := by kernel_rfl

theorem codeKeeps_meets (avs : List AV) (h : All2 (fun t a => Typed Try.prog 9 t a) Try.f3.params.toList avs) : Meets Try.prog (fun _ => none) 3 avs [] true (.v (.bool true)) [] := by
  rw [Try.params3] at h
  match avs, h with
  | [a, b], ⟨h1, h2, _⟩ =>
    obtain ⟨bs, rfl, hb⟩ := typed_bytes h1
    obtain ⟨ps, rfl, hn, hp⟩ := typed_parts h2
    exact keeps_meets bs ps hb (fun p hpp => (hp p hpp).1) hn

theorem codeKeeps_lifted (os : Os) (started : os.Started) (H : Type) (enc : TypeId × Value → H) :
    ReturnsInHanded {} Try.checked os 3 .any (Rows.codeKeepsSpec.pre6 enc Try.prog Try.f3 Rows.codeKeepsRow.domain false) (Rows.codeKeepsSpec.post enc Try.prog Try.f3 false true false false) := by
  refine returnsInHanded_of_change (C := Try.checked) own started (by kernel_rfl) Try.func3
    (ChangeSpec.witness6 (enc := enc) (C := Try.checked) false ⟨#[], #[.slice none 0 0, .slice none 0 0], []⟩ 8 (by kernel_rfl) (by kernel_rfl) (by kernel_rfl) (by kernel_rfl)) ?_
  intro W base args ds gs before hval hW _ _
  exact law_calls (n := 9) (tb := 4) laidOut (by kernel_rfl) (by kernel_rfl) Try.underlying4 rfl (fun ds hds => by
    match ds, hds with
    | [d1, d2], _ => rfl) codeKeeps_meets hval hW

theorem codeKeeps_holds : Rows.CodeKeepsSaid :=
  OpenClaim.holds_of_wide 3 Try.f3 rfl rfl rfl rfl rfl rfl rfl ⟨rfl, rfl, rfl, rfl, rfl⟩ rfl rfl rfl rfl rfl (by kernel_rfl) Try.func3 (by kernel_rfl)
    (of_decide_eq_true (by kernel_rfl)) (by unfold Func.isWrapper; first | (rw [if_pos (by decide +kernel)]; kernel_rfl) | (rw [if_neg (by decide +kernel)]; exact ⟨rfl, rfl⟩))
    (fun os started H enc _ => codeKeeps_lifted os started H enc)

#print axioms codeKeeps_holds
end Go.Proofs.Ytngemgmnpcaamaa
