/- The law BlockFollows of the given program (wapentake/wapentakelaw12.BlockFollows) returns true for every input, and each argument reads behind the call as it read before.
   Conditions: none beyond the given statement's own. -/
import Derived.Test.YtmdjimkndeklmaaRows
import Derived.Test.YtmdjimkndeklmaaL12a
import Derived.Test.YtmdjimkndeklmaaT12
namespace Go.Proofs.Ytmdjimkndeklmaa
open Go.ChangeShapes Go.WideShapes Go.ChangeAt Go.RowKit WL

theorem own : ownKnob Try.prog.godebug = none := by kernel_rfl
theorem laidOut : laidOutB Try.prog = true := by kernel_rfl

theorem blockFollows_all (avs : List AV) (h : All2 (fun t a => Typed Try.prog 9 t a) Try.f4.params.toList avs) : Meets Try.prog (fun _ => none) 4 avs [] true (.v (.bool true)) [] := by
  have h := tys_ok [Ty.blk, .int .i64, .int .i64, Ty.dg, Ty.dg] 9 _ _ (by kernel_rfl) h
  obtain ⟨v1, _, rfl, k1, h⟩ := tys_cons h
  obtain ⟨v2, _, rfl, k2, h⟩ := tys_cons h
  obtain ⟨v3, _, rfl, k3, h⟩ := tys_cons h
  obtain ⟨v4, _, rfl, k4, h⟩ := tys_cons h
  obtain ⟨v5, _, rfl, k5, h⟩ := tys_cons h
  obtain rfl := tys_nil h
  obtain ⟨a1, rfl, h1⟩ := ty_blk k1
  obtain ⟨a2, rfl, h2⟩ := ty_int k2
  obtain ⟨a3, rfl, h3⟩ := ty_int k3
  obtain ⟨a4, rfl⟩ := ty_dg k4
  obtain ⟨a5, rfl⟩ := ty_dg k5
  exact blkFollows_walk a1 a2 a3 a4 a5 h1.texts

theorem blockFollows_lifted (os : Os) (started : os.Started) (H : Type) (enc : TypeId × Value → H) :
    ReturnsInHanded {} Try.checked os 4 .any (Rows.blockFollowsSpec.pre6 enc Try.prog Try.f4 Rows.blockFollowsRow.domain false) (Rows.blockFollowsSpec.post enc Try.prog Try.f4 false true false false) := by
  refine returnsInHanded_of_change_sized (C := Try.checked) own started (by kernel_rfl) Try.func4
    (ChangeSpec.witness6 (enc := enc) (C := Try.checked) false ⟨#[], #[.agg (#[.int .i64 0, .int .i64 0] ++ Array.replicate 96 (.int .u8 0) ++ #[.slice none 0 0]), .int .i64 0, .int .i64 0, .agg (Array.replicate 32 (.int .u8 0)), .agg (Array.replicate 32 (.int .u8 0))], []⟩ 8 (by kernel_rfl) (by kernel_rfl) (by kernel_rfl) (by kernel_rfl)) ?_
  intro W base args ds gs before hval hW _ hwt _
  exact law_calls (n := 9) (tb := 4) laidOut (by kernel_rfl) (by kernel_rfl) Try.underlying4 rfl (fun ds hds => by
    match ds, hds with
    | [d1, d2, d3, d4, d5], _ => rfl) blockFollows_all hval hwt hW

theorem blockFollows_holds : Rows.BlockFollowsSaid :=
  OpenClaim.holds_of_wide 4 Try.f4 rfl rfl rfl rfl rfl rfl rfl ⟨rfl, rfl, rfl, rfl, rfl⟩ rfl rfl rfl rfl rfl (by kernel_rfl) Try.func4 (by kernel_rfl)
    (of_decide_eq_true (by kernel_rfl)) (by unfold Func.isWrapper; first | (rw [if_pos (by decide +kernel)]; kernel_rfl) | (rw [if_neg (by decide +kernel)]; exact ⟨rfl, rfl⟩))
    (fun os started H enc _ => blockFollows_lifted os started H enc)

#print axioms blockFollows_holds
end Go.Proofs.Ytmdjimkndeklmaa
