/- The law MailParts of the given program (wapentake/wapentakelaw20.MailParts) returns true for every input, and each argument reads behind the call as it read before.
   Conditions: none beyond the given statement's own. -/
import Derived.Test.YtglkfbhjimnboaaRows
import Derived.Test.YtglkfbhjimnboaaWm12
namespace Go.Proofs.Ytglkfbhjimnboaa
open Go.ChangeShapes Go.WideShapes Go.ChangeAt Go.RowKit WL

theorem own : ownKnob Try.prog.godebug = none := by kernel_rfl
theorem laidOut : laidOutB Try.prog = true := by kernel_rfl

theorem mailParts_all (avs : List AV) (h : All2 (fun t a => Typed Try.prog 20 t a) Try.f6.params.toList avs) : Meets Try.prog (fun _ => none) 6 avs [] true (.v (.bool true)) [] := by
  have h := tys_ok [Ty.mail, Ty.mail] 20 _ _ (by kernel_rfl) h
  obtain ⟨v1, _, rfl, k1, h⟩ := tys_cons h
  obtain ⟨v2, _, rfl, k2, h⟩ := tys_cons h
  obtain rfl := tys_nil h
  obtain ⟨a1, rfl, h1⟩ := ty_mail k1
  obtain ⟨a2, rfl, h2⟩ := ty_mail k2
  exact mailParts_walk a1 a2 h1.len h2.len

set_option maxRecDepth 100000 in
theorem mailParts_lifted (os : Os) (started : os.Started) (H : Type) (enc : TypeId × Value → H) :
    ReturnsInHanded {} Try.checked os 6 .any (Rows.mailPartsSpec.pre6 enc Try.prog Try.f6 Rows.mailPartsRow.domain false) (Rows.mailPartsSpec.post enc Try.prog Try.f6 false true false false) := by
  refine returnsInHanded_of_change_sized (C := Try.checked) own started (by kernel_rfl) Try.func6
    (ChangeSpec.witness6 (enc := enc) (C := Try.checked) false ⟨#[], #[.agg (#[.int .i64 0, .int .i64 0, .int .i64 0, .int .i64 0, .int .i64 0, .int .i64 0, .int .i64 0] ++ Array.replicate 32 (.int .u8 0) ++ Array.replicate 32 (.int .u8 0) ++ Array.replicate 32 (.int .u8 0) ++ #[.slice none 0 0, .int .i64 0, .int .i64 0, .slice none 0 0, .slice none 0 0, .slice none 0 0, .int .i64 0, .int .i64 0, .int .i64 0, .int .i64 0] ++ Array.replicate 32 (.int .u8 0) ++ #[.int .i64 0, .int .i64 0, .slice none 0 0, .slice none 0 0, .slice none 0 0, .int .i64 0, .int .i64 0, .int .i64 0, .string ⟨#[]⟩, .string ⟨#[]⟩, .string ⟨#[]⟩, .int .i64 0, .int .i64 0, .int .i64 0] ++ Array.replicate 32 (.int .u8 0) ++ #[.int .i64 0, .int .i64 0, .int .i64 0, .int .i64 0, .slice none 0 0, .int .i64 0, .int .i64 0, .int .i64 0] ++ Array.replicate 32 (.int .u8 0) ++ Array.replicate 32 (.int .u8 0) ++ Array.replicate 32 (.int .u8 0) ++ #[.slice none 0 0, .int .i64 0, .slice none 0 0, .slice none 0 0, .slice none 0 0]), .agg (#[.int .i64 0, .int .i64 0, .int .i64 0, .int .i64 0, .int .i64 0, .int .i64 0, .int .i64 0] ++ Array.replicate 32 (.int .u8 0) ++ Array.replicate 32 (.int .u8 0) ++ Array.replicate 32 (.int .u8 0) ++ #[.slice none 0 0, .int .i64 0, .int .i64 0, .slice none 0 0, .slice none 0 0, .slice none 0 0, .int .i64 0, .int .i64 0, .int .i64 0, .int .i64 0] ++ Array.replicate 32 (.int .u8 0) ++ #[.int .i64 0, .int .i64 0, .slice none 0 0, .slice none 0 0, .slice none 0 0, .int .i64 0, .int .i64 0, .int .i64 0, .string ⟨#[]⟩, .string ⟨#[]⟩, .string ⟨#[]⟩, .int .i64 0, .int .i64 0, .int .i64 0] ++ Array.replicate 32 (.int .u8 0) ++ #[.int .i64 0, .int .i64 0, .int .i64 0, .int .i64 0, .slice none 0 0, .int .i64 0, .int .i64 0, .int .i64 0] ++ Array.replicate 32 (.int .u8 0) ++ Array.replicate 32 (.int .u8 0) ++ Array.replicate 32 (.int .u8 0) ++ #[.slice none 0 0, .int .i64 0, .slice none 0 0, .slice none 0 0, .slice none 0 0])], []⟩ 8 (by kernel_rfl) (by kernel_rfl) (by kernel_rfl) (by kernel_rfl)) ?_
  intro W base args ds gs before hval hW _ hwt _
  exact law_calls (n := 20) (tb := 4) laidOut (by kernel_rfl) (by kernel_rfl) Try.underlying4 rfl (fun ds hds => by
    match ds, hds with
    | [d1, d2], _ => rfl) mailParts_all hval hwt hW

theorem mailParts_holds : Rows.MailPartsSaid :=
  OpenClaim.holds_of_wide 6 Try.f6 rfl rfl rfl rfl rfl rfl rfl ⟨rfl, rfl, rfl, rfl, rfl⟩ rfl rfl rfl rfl rfl (by kernel_rfl) Try.func6 (by kernel_rfl)
    (of_decide_eq_true (by kernel_rfl)) (by unfold Func.isWrapper; first | (rw [if_pos (by decide +kernel)]; kernel_rfl) | (rw [if_neg (by decide +kernel)]; exact ⟨rfl, rfl⟩))
    (fun os started H enc _ => mailParts_lifted os started H enc)

#print axioms mailParts_holds
end Go.Proofs.Ytglkfbhjimnboaa
