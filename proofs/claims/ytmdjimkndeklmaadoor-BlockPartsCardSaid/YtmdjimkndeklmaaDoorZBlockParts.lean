/- The law BlockParts of the given program (wapentake/wapentakelaw12.BlockParts) returns true for every input, and each argument reads behind the call as it read before; the tied card.
   Conditions: none beyond the given statement's own. -/
import Derived.Test.YtmdjimkndeklmaaDoorRows
import Derived.Test.YtmdjimkndeklmaaDoorTie
import Derived.Test.YtmdjimkndeklmaaDoorCards
import Derived.SevenTiedAt
import Derived.LaidMore
import Derived.Test.YtmdjimkndeklmaaDoorL12d
import Derived.Test.YtmdjimkndeklmaaDoorT02
import Derived.Test.YtmdjimkndeklmaaDoorT12
namespace Go.Proofs.YtmdjimkndeklmaaDoor
open Go.ChangeShapes Go.WideShapes Go.ChangeAt Go.RowKit WL

theorem own : ownKnob Tryd.prog.godebug = none := by kernel_rfl
theorem laidOut : laidOutB Tryd.prog = true := by kernel_rfl
theorem door_met (os : Os) (args : Array Value) : laidMetH Tryd.prog [("wapentake/sha.table", Rows.laid_wapentake_sha_table)] ((World.doorLaid Tryd.prog 400 os).forCall (fun _ _ => 0) ⟨#[], args, []⟩).memory :=
  laidMetH_of_parts3 (fuel := 8) (laidMet_of_run' 8 (by kernel_rfl) (by kernel_rfl)) (by kernel_rfl) (by kernel_rfl)

theorem blockParts_all (avs : List AV) (h : All2 (fun t a => Typed Tryd.prog 9 t a) Tryd.f4.params.toList avs) : Meets Tryd.prog Gt 4 avs [] true (.v (.bool true)) [] := by
  have h := tys_ok [Ty.blk, Ty.blk] 9 _ _ (by kernel_rfl) h
  obtain ⟨v1, _, rfl, k1, h⟩ := tys_cons h
  obtain ⟨v2, _, rfl, k2, h⟩ := tys_cons h
  obtain rfl := tys_nil h
  obtain ⟨a1, rfl, h1⟩ := ty_blk k1
  obtain ⟨a2, rfl, h2⟩ := ty_blk k2
  exact blkParts_walk a1 a2 h1.epoch h1.height (fun x hx => ⟨(h1.qs x hx).client, (h1.qs x hx).num, (h1.qs x hx).kind, (h1.qs x hx).ckind, (h1.qs x hx).cid, (h1.qs x hx).cnew, (h1.qs x hx).cheight⟩) h1.texts h2.epoch h2.height (fun x hx => ⟨(h2.qs x hx).client, (h2.qs x hx).num, (h2.qs x hx).kind, (h2.qs x hx).ckind, (h2.qs x hx).cid, (h2.qs x hx).cnew, (h2.qs x hx).cheight⟩) h2.texts

set_option maxRecDepth 100000 in
theorem blockParts_lifted (os : Os) (started : os.Started) (H : Type) (enc : TypeId × Value → H) :
    ReturnsInHanded {} Tryd.checked os 4 .any (fun w args => (Rows.blockPartsSpec.pre enc Tryd.prog Tryd.f4 [] false w args ∧ laidMetH Tryd.prog [("wapentake/sha.table", Rows.laid_wapentake_sha_table)] w) ∧ sizedMet enc Tryd.prog Tryd.f4 (OpenSpec.ofChange Rows.blockPartsSpec) false w args)
      (Rows.blockPartsSpec.post enc Tryd.prog Tryd.f4 false true false false) := by
  refine returnsInHanded_of_change_and (C := Tryd.checked) (X := fun w _ => laidMetH Tryd.prog [("wapentake/sha.table", Rows.laid_wapentake_sha_table)] w) (fun _ _ _ hh h => h.of_heap hh) own started (by kernel_rfl) Tryd.func4
    (ChangeSpec.witness_shaped (enc := enc) (C := Tryd.checked) (os := os) (X := fun w _ => laidMetH Tryd.prog [("wapentake/sha.table", Rows.laid_wapentake_sha_table)] w) false (World.doorLaid Tryd.prog 400 os) #[.agg (#[.int .i64 0, .int .i64 0] ++ Array.replicate 96 (.int .u8 0) ++ #[.slice none 0 0]), .agg (#[.int .i64 0, .int .i64 0] ++ Array.replicate 96 (.int .u8 0) ++ #[.slice none 0 0])] 8 rfl (World.shaped_of_RefB (by kernel_rfl) (by kernel_rfl)) (by kernel_rfl) (by kernel_rfl) (by kernel_rfl) (door_met os _)) ?_
  intro W base args ds gs before hval hW _ hwt hL _
  exact law_callsG (n := 9) (tb := 4) laidOut (by kernel_rfl) (by kernel_rfl) Tryd.underlying4 rfl (fun ds hds => by
    match ds, hds with
    | [d1, d2], _ => rfl) (gr_of_laid hL) blockParts_all hval hwt hW

theorem blockParts_holds : Rows.BlockPartsSaid :=
  OpenClaim.holds_of_wide 4 Tryd.f4 rfl rfl rfl rfl rfl rfl rfl ⟨rfl, rfl, rfl, rfl, rfl⟩ rfl rfl rfl rfl rfl (by kernel_rfl) Tryd.func4 (by kernel_rfl)
    (of_decide_eq_true (by kernel_rfl)) (by unfold Func.isWrapper; first | (rw [if_pos (by decide +kernel)]; kernel_rfl) | (rw [if_neg (by decide +kernel)]; exact ⟨rfl, rfl⟩))
    (fun os started H enc _ => blockParts_lifted os started H enc)

theorem blockParts_card_holds : Rows.BlockPartsCardSaid :=
  Claim7.holds_tied_plain_at .later [] [.data] true (true, "74087341679573732b3e9fd01c60af21417c3853b8f1519b59120f52c117b65a") false
    blockParts_holds (fun _ h => by cases h) (by kernel_rfl) (fun _ h => by cases h) blockParts_row_tie rfl ⟨rfl, rfl⟩ (by kernel_rfl) rfl
    (fun f fn hf hfn => by
      obtain rfl : f = 4 := Option.some.inj ((show Tryd.prog.funcNamed "wapentake/wapentakelaw12.BlockParts" = some 4 by kernel_rfl).symm.trans hf) |>.symm
      obtain rfl : fn = Tryd.f4 := (Option.some.inj (Tryd.func4.symm.trans hfn)).symm
      exact ⟨by kernel_rfl, fun j t ht => by
        have hm : t ∈ Tryd.f4.params.toList := by simpa using Array.mem_of_getElem? ht
        have hall : (Tryd.f4.params.toList.all fun u => !Tryd.prog.wantsStandIn u) = true := by kernel_rfl
        exact (show Tryd.prog.wantsStandIn t = false by simpa using List.all_eq_true.1 hall t hm)⟩)
    (by kernel_rfl)

#print axioms blockParts_card_holds
end Go.Proofs.YtmdjimkndeklmaaDoor
