/- The law RingSkips of the given program (wapentake/wapentakelaw06.RingSkips) returns true for every input, and each argument reads behind the call as it read before; the tied card.
   Conditions: none beyond the given statement's own. -/
import Derived.Test.YtphggannefpleaaDoorRows
import Derived.Test.YtphggannefpleaaDoorTie
import Derived.Test.YtphggannefpleaaDoorCards
import Derived.SevenTiedAt
import Derived.LaidMore
import Derived.Test.YtphggannefpleaaDoorWm10
namespace Go.Proofs.YtphggannefpleaaDoor
open Go.ChangeShapes Go.WideShapes Go.ChangeAt Go.RowKit WL

theorem own : ownKnob Tryd.prog.godebug = none := by kernel_rfl
theorem laidOut : laidOutB Tryd.prog = true := by kernel_rfl
theorem door_met (os : Os) (args : Array Value) : laidMetH Tryd.prog [("wapentake/sha.table", Rows.laid_wapentake_sha_table)] ((World.doorLaid Tryd.prog 400 os).forCall (fun _ _ => 0) ⟨#[], args, []⟩).memory :=
  laidMetH_of_parts3 (fuel := 8) (laidMet_of_run' 8 (by kernel_rfl) (by kernel_rfl)) (by kernel_rfl) (by kernel_rfl)

theorem ringSkips_all (avs : List AV) (h : All2 (fun t a => Typed Tryd.prog 20 t a) Tryd.f7.params.toList avs) : Meets Tryd.prog Gt 7 avs [] true (.v (.bool true)) [] := by
  have h := tys_ok [Ty.dg, .int .i64, .int .i64, .int .i64, Ty.dg] 20 _ _ (by kernel_rfl) h
  obtain ⟨v1, _, rfl, k1, h⟩ := tys_cons h
  obtain ⟨v2, _, rfl, k2, h⟩ := tys_cons h
  obtain ⟨v3, _, rfl, k3, h⟩ := tys_cons h
  obtain ⟨v4, _, rfl, k4, h⟩ := tys_cons h
  obtain ⟨v5, _, rfl, k5, h⟩ := tys_cons h
  obtain rfl := tys_nil h
  obtain ⟨a1, rfl⟩ := ty_dg k1
  obtain ⟨a2, rfl, h2⟩ := ty_int k2
  obtain ⟨a3, rfl, h3⟩ := ty_int k3
  obtain ⟨a4, rfl, h4⟩ := ty_int k4
  obtain ⟨a5, rfl⟩ := ty_dg k5
  exact ringSkips_walk a1 a2 a3 a4 a5

set_option maxRecDepth 100000 in
theorem ringSkips_lifted (os : Os) (started : os.Started) (H : Type) (enc : TypeId × Value → H) :
    ReturnsInHanded {} Tryd.checked os 7 .any (fun w args => (Rows.ringSkipsSpec.pre enc Tryd.prog Tryd.f7 [] false w args ∧ laidMetH Tryd.prog [("wapentake/sha.table", Rows.laid_wapentake_sha_table)] w) ∧ sizedMet enc Tryd.prog Tryd.f7 (OpenSpec.ofChange Rows.ringSkipsSpec) false w args)
      (Rows.ringSkipsSpec.post enc Tryd.prog Tryd.f7 false true false false) := by
  refine returnsInHanded_of_change_and (C := Tryd.checked) (X := fun w _ => laidMetH Tryd.prog [("wapentake/sha.table", Rows.laid_wapentake_sha_table)] w) (fun _ _ _ hh h => h.of_heap hh) own started (by kernel_rfl) Tryd.func7
    (ChangeSpec.witness_shaped (enc := enc) (C := Tryd.checked) (os := os) (X := fun w _ => laidMetH Tryd.prog [("wapentake/sha.table", Rows.laid_wapentake_sha_table)] w) false (World.doorLaid Tryd.prog 400 os) #[.agg (Array.replicate 32 (.int .u8 0)), .int .i64 0, .int .i64 0, .int .i64 0, .agg (Array.replicate 32 (.int .u8 0))] 8 rfl (World.shaped_of_RefB (by kernel_rfl) (by kernel_rfl)) (by kernel_rfl) (by kernel_rfl) (by kernel_rfl) (door_met os _)) ?_
  intro W base args ds gs before hval hW _ hwt hL _
  exact law_callsG (n := 20) (tb := 4) laidOut (by kernel_rfl) (by kernel_rfl) Tryd.underlying4 rfl (fun ds hds => by
    match ds, hds with
    | [d1, d2, d3, d4, d5], _ => rfl) (gr_of_laid hL) ringSkips_all hval hwt hW

theorem ringSkips_holds : Rows.RingSkipsSaid :=
  OpenClaim.holds_of_wide 7 Tryd.f7 rfl rfl rfl rfl rfl rfl rfl ⟨rfl, rfl, rfl, rfl, rfl⟩ rfl rfl rfl rfl rfl (by kernel_rfl) Tryd.func7 (by kernel_rfl)
    (of_decide_eq_true (by kernel_rfl)) (by unfold Func.isWrapper; first | (rw [if_pos (by decide +kernel)]; kernel_rfl) | (rw [if_neg (by decide +kernel)]; exact ⟨rfl, rfl⟩))
    (fun os started H enc _ => ringSkips_lifted os started H enc)

theorem ringSkips_card_holds : Rows.RingSkipsCardSaid :=
  Claim7.holds_tied_plain_at .later [] [.data] true (true, "6003638eb14f7d01b296aaf7dd61fdf93fba4edf87ac7189ba1f1b4b78d48663") false
    ringSkips_holds (fun _ h => by cases h) (by kernel_rfl) (fun _ h => by cases h) ringSkips_row_tie rfl ⟨rfl, rfl⟩ (by kernel_rfl) rfl
    (fun f fn hf hfn => by
      obtain rfl : f = 7 := Option.some.inj ((show Tryd.prog.funcNamed "wapentake/wapentakelaw06.RingSkips" = some 7 by kernel_rfl).symm.trans hf) |>.symm
      obtain rfl : fn = Tryd.f7 := (Option.some.inj (Tryd.func7.symm.trans hfn)).symm
      exact ⟨by kernel_rfl, fun j t ht => by
        have hm : t ∈ Tryd.f7.params.toList := by simpa using Array.mem_of_getElem? ht
        have hall : (Tryd.f7.params.toList.all fun u => !Tryd.prog.wantsStandIn u) = true := by kernel_rfl
        exact (show Tryd.prog.wantsStandIn t = false by simpa using List.all_eq_true.1 hall t hm)⟩)
    (by kernel_rfl)

#print axioms ringSkips_card_holds
end Go.Proofs.YtphggannefpleaaDoor
