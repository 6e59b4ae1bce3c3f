/- The law ChainWrites of the given program (wapentake/wapentakelaw15.ChainWrites) returns true for every input, and each argument reads behind the call as it read before; the tied card.
   Conditions: none beyond the given statement's own. -/
import Derived.Test.YtjlmpdbagmdbiaaDoorRows
import Derived.Test.YtjlmpdbagmdbiaaDoorTie
import Derived.Test.YtjlmpdbagmdbiaaDoorCards
import Derived.SevenTiedAt
import Derived.LaidMore
import Derived.Test.YtjlmpdbagmdbiaaDoorWm14
namespace Go.Proofs.YtjlmpdbagmdbiaaDoor
open Go.ChangeShapes Go.WideShapes Go.ChangeAt Go.RowKit WL
theorem own : ownKnob Tryd.prog.godebug = none := by kernel_rfl
theorem laidOut : laidOutB Tryd.prog = true := by kernel_rfl
theorem JOQ (os : Os) (args : Array Value) : laidMetH Tryd.prog [("wapentake/sha.table", Rows.laid_wapentake_sha_table)] ((World.doorLaid Tryd.prog 400 os).forCall (fun _ _ => 0) ⟨#[], args, []⟩).memory :=
  laidMetH_of_parts3 (fuel := 8) (laidMet_of_run' 8 (by kernel_rfl) (by kernel_rfl)) (by kernel_rfl) (by kernel_rfl)
theorem chainWrites_all (avs : List AV) (h : All2 (fun t a => Typed Tryd.prog 20 t a) Tryd.f11.params.toList avs) : Meets Tryd.prog Gt 11 avs [] true (.v (.bool true)) [] := by
  have h := JOi [Ty.conf, Ty.link, Ty.bytes] 20 _ _ (by kernel_rfl) h
  obtain ⟨v1, _, rfl, k1, h⟩ := Jr h
  obtain ⟨v2, _, rfl, k2, h⟩ := Jr h
  obtain ⟨v3, _, rfl, k3, h⟩ := Jr h
  obtain rfl := Jvx h
  obtain ⟨a1, rfl, h1⟩ := JMG k1
  obtain ⟨a2, rfl, h2⟩ := JSq k2
  obtain ⟨a3, rfl, h3⟩ := JPk k3
  exact JC5 a1 a2 a3 (fun m hm => (h1.ms m hm).2) (fun v hv => (h2.cert.votes v hv).leaf) h2.blk.epoch h2.blk.height (fun x hx => ⟨(h2.blk.qs x hx).client, (h2.blk.qs x hx).num, (h2.blk.qs x hx).kind, (h2.blk.qs x hx).ckind, (h2.blk.qs x hx).cid, (h2.blk.qs x hx).cnew, (h2.blk.qs x hx).cheight⟩) h2.blk.texts
set_option maxRecDepth 100000 in
theorem chainWrites_lifted (os : Os) (started : os.Started) (H : Type) (enc : TypeId × Value → H) :
    ReturnsInHanded {} Tryd.checked os 11 .any (fun w args => (Rows.chainWritesSpec.pre enc Tryd.prog Tryd.f11 [] false w args ∧ laidMetH Tryd.prog [("wapentake/sha.table", Rows.laid_wapentake_sha_table)] w) ∧ sizedMet enc Tryd.prog Tryd.f11 (OpenSpec.ofChange Rows.chainWritesSpec) false w args)
      (Rows.chainWritesSpec.post enc Tryd.prog Tryd.f11 false true false false) := by
  refine returnsInHanded_of_change_and (C := Tryd.checked) (X := fun w _ => laidMetH Tryd.prog [("wapentake/sha.table", Rows.laid_wapentake_sha_table)] w) (fun _ _ _ hh h => h.of_heap hh) own started (by kernel_rfl) Tryd.func11
    (ChangeSpec.witness_shaped (enc := enc) (C := Tryd.checked) (os := os) (X := fun w _ => laidMetH Tryd.prog [("wapentake/sha.table", Rows.laid_wapentake_sha_table)] w) false (World.doorLaid Tryd.prog 400 os) #[.agg (#[.int .i64 0, .slice none 0 0]), .agg (#[.int .i64 0, .int .i64 0] ++ Array.replicate 32 (.int .u8 0) ++ Array.replicate 32 (.int .u8 0) ++ Array.replicate 32 (.int .u8 0) ++ #[.slice none 0 0, .int .i64 0, .slice none 0 0, .int .i64 0, .slice none 0 0]), .slice none 0 0] 8 rfl (World.shaped_of_RefB (by kernel_rfl) (by kernel_rfl)) (by kernel_rfl) (by kernel_rfl) (by kernel_rfl) (JOQ os _)) ?_
  intro W base args ds gs before hval hW _ hwt hL _
  exact JFj (n := 20) (tb := 4) laidOut (by kernel_rfl) (by kernel_rfl) Tryd.underlying4 rfl (fun ds hds => by
    match ds, hds with
    | [d1, d2, d3], _ => rfl) (JKS hL) chainWrites_all hval hwt hW
theorem chainWrites_holds : Rows.ChainWritesSaid :=
  OpenClaim.holds_of_wide 11 Tryd.f11 rfl rfl rfl rfl rfl rfl rfl ⟨rfl, rfl, rfl, rfl, rfl⟩ rfl rfl rfl rfl rfl (by kernel_rfl) Tryd.func11 (by kernel_rfl)
    (of_decide_eq_true (by kernel_rfl)) (by unfold Func.isWrapper; first | (rw [if_pos (by decide +kernel)]; kernel_rfl) | (rw [if_neg (by decide +kernel)]; exact ⟨rfl, rfl⟩))
    (fun os started H enc _ => chainWrites_lifted os started H enc)
theorem chainWrites_card_holds : Rows.ChainWritesCardSaid :=
  Claim7.holds_tied_plain_at .later [] [.data] true (true, "bc9fec29261652d40446fc6f2539130e592e282cd2f0b258997f1d8a8fc0835d") false
    chainWrites_holds (fun _ h => by cases h) (by kernel_rfl) (fun _ h => by cases h) chainWrites_row_tie rfl ⟨rfl, rfl⟩ (by kernel_rfl) rfl
    (fun f fn hf hfn => by
      obtain rfl : f = 11 := Option.some.inj ((show Tryd.prog.funcNamed "wapentake/wapentakelaw15.ChainWrites" = some 11 by kernel_rfl).symm.trans hf) |>.symm
      obtain rfl : fn = Tryd.f11 := (Option.some.inj (Tryd.func11.symm.trans hfn)).symm
      exact ⟨by kernel_rfl, fun j t ht => by
        have hm : t ∈ Tryd.f11.params.toList := by simpa using Array.mem_of_getElem? ht
        have hall : (Tryd.f11.params.toList.all fun u => !Tryd.prog.wantsStandIn u) = true := by kernel_rfl
        exact (show Tryd.prog.wantsStandIn t = false by simpa using List.all_eq_true.1 hall t hm)⟩)
    (by kernel_rfl)
#print axioms chainWrites_card_holds
end Go.Proofs.YtjlmpdbagmdbiaaDoor
