/- The law ClientBelieves of the given program (wapentake/wapentakelaw22.ClientBelieves) returns true for every input, and each argument reads behind the call as it read before; the tied card.
   Conditions: none beyond the given statement's own. -/
import Derived.Test.YtlajjoekbcjfnaaGreatDoorRows
import Derived.Test.YtlajjoekbcjfnaaGreatDoorTie
import Derived.Test.YtlajjoekbcjfnaaGreatDoorCards
import Derived.SevenTiedAt
import Derived.LaidMore
import Derived.Test.YtlajjoekbcjfnaaGreatDoorWm19
namespace Go.Proofs.YtlajjoekbcjfnaaGreatDoor
open Go.ChangeShapes Go.WideShapes Go.ChangeAt Go.RowKit WL
theorem own : ownKnob Tryz.prog.godebug = none := by kernel_rfl
theorem laidOut : laidOutB Tryz.prog = true := by kernel_rfl
theorem J14 (os : Os) (args : Array Value) : laidMetH Tryz.prog [("wapentake/sha.table", Rows.laid_wapentake_sha_table)] ((World.doorLaid Tryz.prog 400 os).forCall (fun _ _ => 0) ⟨#[], args, []⟩).memory :=
  laidMetH_of_parts3 (fuel := 8) (laidMet_of_run' 8 (by kernel_rfl) (by kernel_rfl)) (by kernel_rfl) (by kernel_rfl)
theorem clientBelieves_all (avs : List AV) (h : All2 (fun t a => Typed Tryz.prog 20 t a) Tryz.f5.params.toList avs) : Meets Tryz.prog Gt 5 avs [] true (.v (.bool true)) [] := by
  have h := JZ7 [Ty.conf, Ty.op, .sl 4 48 Ty.rep, .sl 48 208 Ty.cal] 20 _ _ (by kernel_rfl) h
  obtain ⟨v1, _, rfl, k1, h⟩ := JV h
  obtain ⟨v2, _, rfl, k2, h⟩ := JV h
  obtain ⟨v3, _, rfl, k3, h⟩ := JV h
  obtain ⟨v4, _, rfl, k4, h⟩ := JV h
  obtain rfl := JOL h
  obtain ⟨a1, rfl, h1⟩ := J3n k1
  obtain ⟨a2, rfl, h2⟩ := ty_op k2
  obtain ⟨a3, rfl, h3, h3b⟩ := J3r k3
  obtain ⟨a4, rfl, h4, h4b⟩ := J3c k4
  exact JGm a1 a2 a3 a4 (fun m hm => (h1.ms m hm).2) h2 h3b (by unfold reachBytes at h3; omega) h4b (by unfold reachBytes at h4; omega)
set_option maxRecDepth 100000 in
theorem clientBelieves_lifted (os : Os) (started : os.Started) (H : Type) (enc : TypeId × Value → H) :
    ReturnsInHanded {} Tryz.checked os 5 .any (fun w args => (Rows.clientBelievesSpec.pre enc Tryz.prog Tryz.f5 [] false w args ∧ laidMetH Tryz.prog [("wapentake/sha.table", Rows.laid_wapentake_sha_table)] w) ∧ sizedMet enc Tryz.prog Tryz.f5 (OpenSpec.ofChange Rows.clientBelievesSpec) false w args)
      (Rows.clientBelievesSpec.post enc Tryz.prog Tryz.f5 false true false false) := by
  refine returnsInHanded_of_change_and (C := Tryz.checked) (X := fun w _ => laidMetH Tryz.prog [("wapentake/sha.table", Rows.laid_wapentake_sha_table)] w) (fun _ _ _ hh h => h.of_heap hh) own started (by kernel_rfl) Tryz.func5
    (ChangeSpec.witness_shaped (enc := enc) (C := Tryz.checked) (os := os) (X := fun w _ => laidMetH Tryz.prog [("wapentake/sha.table", Rows.laid_wapentake_sha_table)] w) false (World.doorLaid Tryz.prog 400 os) #[.agg (#[.int .i64 0, .slice none 0 0]), .agg (#[.int .i64 0, .string ⟨#[]⟩, .string ⟨#[]⟩, .string ⟨#[]⟩, .int .i64 0, .int .i64 0, .int .i64 0] ++ Array.replicate 32 (.int .u8 0) ++ #[.int .i64 0]), .slice none 0 0, .slice none 0 0] 8 rfl (World.shaped_of_RefB (by kernel_rfl) (by kernel_rfl)) (by kernel_rfl) (by kernel_rfl) (by kernel_rfl) (J14 os _)) ?_
  intro W base args ds gs before hval hW _ hwt hL _
  exact JWX (n := 20) (tb := 4) laidOut (by kernel_rfl) (by kernel_rfl) Tryz.underlying4 rfl (fun ds hds => by
    match ds, hds with
    | [d1, d2, d3, d4], _ => rfl) (JXO hL) clientBelieves_all hval hwt hW
theorem clientBelieves_holds : Rows.ClientBelievesSaid :=
  OpenClaim.holds_of_wide 5 Tryz.f5 rfl rfl rfl rfl rfl rfl rfl ⟨rfl, rfl, rfl, rfl, rfl⟩ rfl rfl rfl rfl rfl (by kernel_rfl) Tryz.func5 (by kernel_rfl)
    (of_decide_eq_true (by kernel_rfl)) (by unfold Func.isWrapper; first | (rw [if_pos (by decide +kernel)]; kernel_rfl) | (rw [if_neg (by decide +kernel)]; exact ⟨rfl, rfl⟩))
    (fun os started H enc _ => clientBelieves_lifted os started H enc)
theorem clientBelieves_card_holds : Rows.ClientBelievesCardSaid :=
  Claim7.holds_tied_plain_at .later [] [.data] true (true, "d6b820741c2f7075b69e9e998f048fe884a074415d065e53f24e662dc93f2978") false
    clientBelieves_holds (fun _ h => by cases h) (by kernel_rfl) (fun _ h => by cases h) clientBelieves_row_tie rfl ⟨rfl, rfl⟩ (by kernel_rfl) rfl
    (fun f fn hf hfn => by
      obtain rfl : f = 5 := Option.some.inj ((show Tryz.prog.funcNamed "wapentake/wapentakelaw22.ClientBelieves" = some 5 by kernel_rfl).symm.trans hf) |>.symm
      obtain rfl : fn = Tryz.f5 := (Option.some.inj (Tryz.func5.symm.trans hfn)).symm
      exact ⟨by kernel_rfl, fun j t ht => by
        have hm : t ∈ Tryz.f5.params.toList := by simpa using Array.mem_of_getElem? ht
        have hall : (Tryz.f5.params.toList.all fun u => !Tryz.prog.wantsStandIn u) = true := by kernel_rfl
        exact (show Tryz.prog.wantsStandIn t = false by simpa using List.all_eq_true.1 hall t hm)⟩)
    (by kernel_rfl)
#print axioms clientBelieves_card_holds
end Go.Proofs.YtlajjoekbcjfnaaGreatDoor
