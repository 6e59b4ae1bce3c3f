/- The law BlockCuts of the given program (wapentake/wapentakelaw12.BlockCuts) returns true for every input, and each argument reads behind the call as it read before.
   Conditions: none beyond the given statement's own. -/
import Derived.Test.YtmdjimkndeklmaaRows
import Derived.Test.YtmdjimkndeklmaaL12c
import Derived.Test.YtmdjimkndeklmaaT12
namespace Go.Proofs.Ytmdjimkndeklmaa
open Go.ChangeShapes Go.WideShapes Go.ChangeAt Go.RowKit WL

theorem own : ownKnob Try.prog.godebug = none := by kernel_rfl
theorem laidOut : laidOutB Try.prog = true := by kernel_rfl

theorem blockCuts_all (avs : List AV) (h : All2 (fun t a => Typed Try.prog 9 t a) Try.f8.params.toList avs) : Meets Try.prog (fun _ => none) 8 avs [] true (.v (.bool true)) [] := by
  have h := tys_ok [Ty.blk, .int .i64] 9 _ _ (by kernel_rfl) h
  obtain ⟨v1, _, rfl, k1, h⟩ := tys_cons h
  obtain ⟨v2, _, rfl, k2, h⟩ := tys_cons h
  obtain rfl := tys_nil h
  obtain ⟨a1, rfl, h1⟩ := ty_blk k1
  obtain ⟨a2, rfl, h2⟩ := ty_int k2
  exact blkCuts_walk a1 a2 h1.epoch h1.height (fun x hx => ⟨(h1.qs x hx).client, (h1.qs x hx).num, (h1.qs x hx).kind, (h1.qs x hx).ckind, (h1.qs x hx).cid, (h1.qs x hx).cnew, (h1.qs x hx).cheight⟩) h1.texts

theorem blockCuts_lifted (os : Os) (started : os.Started) (H : Type) (enc : TypeId × Value → H) :
    ReturnsInHanded {} Try.checked os 8 .any (Rows.blockCutsSpec.pre6 enc Try.prog Try.f8 Rows.blockCutsRow.domain false) (Rows.blockCutsSpec.post enc Try.prog Try.f8 false true false false) := by
  refine returnsInHanded_of_change_sized (C := Try.checked) own started (by kernel_rfl) Try.func8
    (ChangeSpec.witness6 (enc := enc) (C := Try.checked) false ⟨#[], #[.agg (#[.int .i64 0, .int .i64 0] ++ Array.replicate 96 (.int .u8 0) ++ #[.slice none 0 0]), .int .i64 0], []⟩ 8 (by kernel_rfl) (by kernel_rfl) (by kernel_rfl) (by kernel_rfl)) ?_
  intro W base args ds gs before hval hW _ hwt _
  exact law_calls (n := 9) (tb := 4) laidOut (by kernel_rfl) (by kernel_rfl) Try.underlying4 rfl (fun ds hds => by
    match ds, hds with
    | [d1, d2], _ => rfl) blockCuts_all hval hwt hW

theorem blockCuts_holds : Rows.BlockCutsSaid :=
  OpenClaim.holds_of_wide 8 Try.f8 rfl rfl rfl rfl rfl rfl rfl ⟨rfl, rfl, rfl, rfl, rfl⟩ rfl rfl rfl rfl rfl (by kernel_rfl) Try.func8 (by kernel_rfl)
    (of_decide_eq_true (by kernel_rfl)) (by unfold Func.isWrapper; first | (rw [if_pos (by decide +kernel)]; kernel_rfl) | (rw [if_neg (by decide +kernel)]; exact ⟨rfl, rfl⟩))
    (fun os started H enc _ => blockCuts_lifted os started H enc)

#print axioms blockCuts_holds
end Go.Proofs.Ytmdjimkndeklmaa
