/- The law ChunkParts of the given program (wapentake/wapentakelaw11.ChunkParts) returns true for every input, and each argument reads behind the call as it read before; the tied card.
   Conditions: none beyond the given statement's own. -/
import Derived.Test.YtbmdaaehogpeeaaDoorRows
import Derived.Test.YtbmdaaehogpeeaaDoorTie
import Derived.Test.YtbmdaaehogpeeaaDoorCards
import Derived.SevenTiedAt
import Derived.LaidMore
import Derived.Test.YtbmdaaehogpeeaaDoorWm11
namespace Go.Proofs.YtbmdaaehogpeeaaDoor
open Go.ChangeShapes Go.WideShapes Go.ChangeAt Go.RowKit WL

theorem own : ownKnob Tryd.prog.godebug = none := by kernel_rfl
theorem laidOut : laidOutB Tryd.prog = true := by kernel_rfl
theorem door_met (os : Os) (args : Array Value) : laidMetH Tryd.prog [("wapentake/sha.table", Rows.laid_wapentake_sha_table)] ((World.doorLaid Tryd.prog 400 os).forCall (fun _ _ => 0) ⟨#[], args, []⟩).memory :=
  laidMetH_of_parts3 (fuel := 8) (laidMet_of_run' 8 (by kernel_rfl) (by kernel_rfl)) (by kernel_rfl) (by kernel_rfl)

theorem chunkParts_all (avs : List AV) (h : All2 (fun t a => Typed Tryd.prog 20 t a) Tryd.f5.params.toList avs) : Meets Tryd.prog Gt 5 avs [] true (.v (.bool true)) [] := by
  have h := tys_ok [Ty.state] 20 _ _ (by kernel_rfl) h
  obtain ⟨v1, _, rfl, k1, h⟩ := tys_cons h
  obtain rfl := tys_nil h
  obtain ⟨a1, rfl, h1⟩ := ty_state k1
  exact walk_ChunkParts a1 h1

set_option maxRecDepth 100000 in
theorem chunkParts_lifted (os : Os) (started : os.Started) (H : Type) (enc : TypeId × Value → H) :
    ReturnsInHanded {} Tryd.checked os 5 .any (fun w args => (Rows.chunkPartsSpec.pre enc Tryd.prog Tryd.f5 [] false w args ∧ laidMetH Tryd.prog [("wapentake/sha.table", Rows.laid_wapentake_sha_table)] w) ∧ sizedMet enc Tryd.prog Tryd.f5 (OpenSpec.ofChange Rows.chunkPartsSpec) false w args)
      (Rows.chunkPartsSpec.post enc Tryd.prog Tryd.f5 false true false false) := by
  refine returnsInHanded_of_change_and (C := Tryd.checked) (X := fun w _ => laidMetH Tryd.prog [("wapentake/sha.table", Rows.laid_wapentake_sha_table)] w) (fun _ _ _ hh h => h.of_heap hh) own started (by kernel_rfl) Tryd.func5
    (ChangeSpec.witness_shaped (enc := enc) (C := Tryd.checked) (os := os) (X := fun w _ => laidMetH Tryd.prog [("wapentake/sha.table", Rows.laid_wapentake_sha_table)] w) false (World.doorLaid Tryd.prog 400 os) #[.agg (#[.slice none 0 0, .slice none 0 0, .int .i64 0, .slice none 0 0])] 8 rfl (World.shaped_of_RefB (by kernel_rfl) (by kernel_rfl)) (by kernel_rfl) (by kernel_rfl) (by kernel_rfl) (door_met os _)) ?_
  intro W base args ds gs before hval hW _ hwt hL _
  exact law_callsG (n := 20) (tb := 4) laidOut (by kernel_rfl) (by kernel_rfl) Tryd.underlying4 rfl (fun ds hds => by
    match ds, hds with
    | [d1], _ => rfl) (gr_of_laid hL) chunkParts_all hval hwt hW

theorem chunkParts_holds : Rows.ChunkPartsSaid :=
  OpenClaim.holds_of_wide 5 Tryd.f5 rfl rfl rfl rfl rfl rfl rfl ⟨rfl, rfl, rfl, rfl, rfl⟩ rfl rfl rfl rfl rfl (by kernel_rfl) Tryd.func5 (by kernel_rfl)
    (of_decide_eq_true (by kernel_rfl)) (by unfold Func.isWrapper; first | (rw [if_pos (by decide +kernel)]; kernel_rfl) | (rw [if_neg (by decide +kernel)]; exact ⟨rfl, rfl⟩))
    (fun os started H enc _ => chunkParts_lifted os started H enc)

theorem chunkParts_card_holds : Rows.ChunkPartsCardSaid :=
  Claim7.holds_tied_plain_at .later [] [.data] true (true, "957d8e8a17ed38787ba257f21a4cdd1fa5e681da19d556272b60524efd974aa8") false
    chunkParts_holds (fun _ h => by cases h) (by kernel_rfl) (fun _ h => by cases h) chunkParts_row_tie rfl ⟨rfl, rfl⟩ (by kernel_rfl) rfl
    (fun f fn hf hfn => by
      obtain rfl : f = 5 := Option.some.inj ((show Tryd.prog.funcNamed "wapentake/wapentakelaw11.ChunkParts" = some 5 by kernel_rfl).symm.trans hf) |>.symm
      obtain rfl : fn = Tryd.f5 := (Option.some.inj (Tryd.func5.symm.trans hfn)).symm
      exact ⟨by kernel_rfl, fun j t ht => by
        have hm : t ∈ Tryd.f5.params.toList := by simpa using Array.mem_of_getElem? ht
        have hall : (Tryd.f5.params.toList.all fun u => !Tryd.prog.wantsStandIn u) = true := by kernel_rfl
        exact (show Tryd.prog.wantsStandIn t = false by simpa using List.all_eq_true.1 hall t hm)⟩)
    (by kernel_rfl)

#print axioms chunkParts_card_holds
end Go.Proofs.YtbmdaaehogpeeaaDoor
