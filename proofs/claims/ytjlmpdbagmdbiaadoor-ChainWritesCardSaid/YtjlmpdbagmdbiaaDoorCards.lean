/-
  DERIVED. GIVEN WITH THE SEED: THE CARDS: each row of YtjlmpdbagmdbiaaDoorRows.lean that lists a variable, with what it lists TIED to the program's text (the seventh form; the later family's looks); each row that meets fmt, with fmt's text TOLD by the authors' own Lean function (tested against real Go, not proved from fmt's source: count such statements apart). THE CARD IS WHAT COUNTS. Prove the row's statement (the work); the ties are given (YtjlmpdbagmdbiaaDoorTie.lean); close each card by the builder's one call (the guide's Derived/Test/ToyasCard.lean, 'card_holds'). Laid BY PROGRAM, IN A SANDBOX (cutbox-door.mjs). By AI agents, Wed Nov 11 2026. No macro, syntax, notation, axiom, sorry.
-/
import Derived.Test.YtjlmpdbagmdbiaaDoorRows
import GoSem.ClaimSeven
namespace Go.Proofs.YtjlmpdbagmdbiaaDoor
namespace Rows

/-- THE TIED CARD OF 'wapentakelaw15.ChainChecks'. -/
def chainChecksCard : Claim7 := { stood := { row := chainChecksRow, standIns := [], harness := (true, "bc9fec29261652d40446fc6f2539130e592e282cd2f0b258997f1d8a8fc0835d"), looks := false }, kinds := [], alts := [], laidByText := true, laidKinds := [.data], laidTests := true, laidLooks := .later }
def ChainChecksCardSaid : Prop := Claim7.holds Tryd.pinned (.plain (OpenSpec.ofChange chainChecksSpec)) chainChecksCard

/-- THE TIED CARD OF 'wapentakelaw15.ChainParts'. -/
def chainPartsCard : Claim7 := { stood := { row := chainPartsRow, standIns := [], harness := (true, "bc9fec29261652d40446fc6f2539130e592e282cd2f0b258997f1d8a8fc0835d"), looks := false }, kinds := [], alts := [], laidByText := true, laidKinds := [.data], laidTests := true, laidLooks := .later }
def ChainPartsCardSaid : Prop := Claim7.holds Tryd.pinned (.plain (OpenSpec.ofChange chainPartsSpec)) chainPartsCard

/-- THE TIED CARD OF 'wapentakelaw15.ChainGrows'. -/
def chainGrowsCard : Claim7 := { stood := { row := chainGrowsRow, standIns := [], harness := (true, "bc9fec29261652d40446fc6f2539130e592e282cd2f0b258997f1d8a8fc0835d"), looks := false }, kinds := [], alts := [], laidByText := true, laidKinds := [.data], laidTests := true, laidLooks := .later }
def ChainGrowsCardSaid : Prop := Claim7.holds Tryd.pinned (.plain (OpenSpec.ofChange chainGrowsSpec)) chainGrowsCard

/-- THE TIED CARD OF 'wapentakelaw14.CertChecks'. -/
def certChecksCard : Claim7 := { stood := { row := certChecksRow, standIns := [], harness := (true, "bc9fec29261652d40446fc6f2539130e592e282cd2f0b258997f1d8a8fc0835d"), looks := false }, kinds := [], alts := [], laidByText := true, laidKinds := [.data], laidTests := true, laidLooks := .later }
def CertChecksCardSaid : Prop := Claim7.holds Tryd.pinned (.plain (OpenSpec.ofChange certChecksSpec)) certChecksCard

/-- THE TIED CARD OF 'wapentakelaw14.CertMakes'. -/
def certMakesCard : Claim7 := { stood := { row := certMakesRow, standIns := [], harness := (true, "bc9fec29261652d40446fc6f2539130e592e282cd2f0b258997f1d8a8fc0835d"), looks := false }, kinds := [], alts := [], laidByText := true, laidKinds := [.data], laidTests := true, laidLooks := .later }
def CertMakesCardSaid : Prop := Claim7.holds Tryd.pinned (.plain (OpenSpec.ofChange certMakesSpec)) certMakesCard

/-- THE TIED CARD OF 'wapentakelaw14.CertFew'. -/
def certFewCard : Claim7 := { stood := { row := certFewRow, standIns := [], harness := (true, "bc9fec29261652d40446fc6f2539130e592e282cd2f0b258997f1d8a8fc0835d"), looks := false }, kinds := [], alts := [], laidByText := true, laidKinds := [.data], laidTests := true, laidLooks := .later }
def CertFewCardSaid : Prop := Claim7.holds Tryd.pinned (.plain (OpenSpec.ofChange certFewSpec)) certFewCard

/-- THE TIED CARD OF 'wapentakelaw14.CertAgrees'. -/
def certAgreesCard : Claim7 := { stood := { row := certAgreesRow, standIns := [], harness := (true, "bc9fec29261652d40446fc6f2539130e592e282cd2f0b258997f1d8a8fc0835d"), looks := false }, kinds := [], alts := [], laidByText := true, laidKinds := [.data], laidTests := true, laidLooks := .later }
def CertAgreesCardSaid : Prop := Claim7.holds Tryd.pinned (.plain (OpenSpec.ofChange certAgreesSpec)) certAgreesCard

/-- THE TIED CARD OF 'wapentakelaw14.CertWrites'. -/
def certWritesCard : Claim7 := { stood := { row := certWritesRow, standIns := [], harness := (true, "bc9fec29261652d40446fc6f2539130e592e282cd2f0b258997f1d8a8fc0835d"), looks := false }, kinds := [], alts := [], laidByText := true, laidKinds := [.data], laidTests := true, laidLooks := .later }
def CertWritesCardSaid : Prop := Claim7.holds Tryd.pinned (.plain (OpenSpec.ofChange certWritesSpec)) certWritesCard

/-- THE TIED CARD OF 'wapentakelaw15.ChainWrites'. -/
def chainWritesCard : Claim7 := { stood := { row := chainWritesRow, standIns := [], harness := (true, "bc9fec29261652d40446fc6f2539130e592e282cd2f0b258997f1d8a8fc0835d"), looks := false }, kinds := [], alts := [], laidByText := true, laidKinds := [.data], laidTests := true, laidLooks := .later }
def ChainWritesCardSaid : Prop := Claim7.holds Tryd.pinned (.plain (OpenSpec.ofChange chainWritesSpec)) chainWritesCard

/-- THE SECOND FORM's CARD OF 'wapentakelaw15.ChainChecks'. -/
def chainChecksUptoCard : Claim7 := { stood := { row := chainChecksUptoRow, standIns := [], harness := (true, "bc9fec29261652d40446fc6f2539130e592e282cd2f0b258997f1d8a8fc0835d"), looks := false }, kinds := [], alts := [], laidByText := true, laidKinds := [.data], laidTests := true, laidLooks := .later }
def ChainChecksUptoCardSaid : Prop := Claim7.holds Tryd.pinned (.plain (OpenSpec.upto chainChecksSpec)) chainChecksUptoCard

/-- THE SECOND FORM's CARD OF 'wapentakelaw15.ChainParts'. -/
def chainPartsUptoCard : Claim7 := { stood := { row := chainPartsUptoRow, standIns := [], harness := (true, "bc9fec29261652d40446fc6f2539130e592e282cd2f0b258997f1d8a8fc0835d"), looks := false }, kinds := [], alts := [], laidByText := true, laidKinds := [.data], laidTests := true, laidLooks := .later }
def ChainPartsUptoCardSaid : Prop := Claim7.holds Tryd.pinned (.plain (OpenSpec.upto chainPartsSpec)) chainPartsUptoCard

/-- THE SECOND FORM's CARD OF 'wapentakelaw15.ChainGrows'. -/
def chainGrowsUptoCard : Claim7 := { stood := { row := chainGrowsUptoRow, standIns := [], harness := (true, "bc9fec29261652d40446fc6f2539130e592e282cd2f0b258997f1d8a8fc0835d"), looks := false }, kinds := [], alts := [], laidByText := true, laidKinds := [.data], laidTests := true, laidLooks := .later }
def ChainGrowsUptoCardSaid : Prop := Claim7.holds Tryd.pinned (.plain (OpenSpec.upto chainGrowsSpec)) chainGrowsUptoCard

/-- THE SECOND FORM's CARD OF 'wapentakelaw14.CertChecks'. -/
def certChecksUptoCard : Claim7 := { stood := { row := certChecksUptoRow, standIns := [], harness := (true, "bc9fec29261652d40446fc6f2539130e592e282cd2f0b258997f1d8a8fc0835d"), looks := false }, kinds := [], alts := [], laidByText := true, laidKinds := [.data], laidTests := true, laidLooks := .later }
def CertChecksUptoCardSaid : Prop := Claim7.holds Tryd.pinned (.plain (OpenSpec.upto certChecksSpec)) certChecksUptoCard

/-- THE SECOND FORM's CARD OF 'wapentakelaw14.CertMakes'. -/
def certMakesUptoCard : Claim7 := { stood := { row := certMakesUptoRow, standIns := [], harness := (true, "bc9fec29261652d40446fc6f2539130e592e282cd2f0b258997f1d8a8fc0835d"), looks := false }, kinds := [], alts := [], laidByText := true, laidKinds := [.data], laidTests := true, laidLooks := .later }
def CertMakesUptoCardSaid : Prop := Claim7.holds Tryd.pinned (.plain (OpenSpec.upto certMakesSpec)) certMakesUptoCard

/-- THE SECOND FORM's CARD OF 'wapentakelaw14.CertFew'. -/
def certFewUptoCard : Claim7 := { stood := { row := certFewUptoRow, standIns := [], harness := (true, "bc9fec29261652d40446fc6f2539130e592e282cd2f0b258997f1d8a8fc0835d"), looks := false }, kinds := [], alts := [], laidByText := true, laidKinds := [.data], laidTests := true, laidLooks := .later }
def CertFewUptoCardSaid : Prop := Claim7.holds Tryd.pinned (.plain (OpenSpec.upto certFewSpec)) certFewUptoCard

/-- THE SECOND FORM's CARD OF 'wapentakelaw14.CertAgrees'. -/
def certAgreesUptoCard : Claim7 := { stood := { row := certAgreesUptoRow, standIns := [], harness := (true, "bc9fec29261652d40446fc6f2539130e592e282cd2f0b258997f1d8a8fc0835d"), looks := false }, kinds := [], alts := [], laidByText := true, laidKinds := [.data], laidTests := true, laidLooks := .later }
def CertAgreesUptoCardSaid : Prop := Claim7.holds Tryd.pinned (.plain (OpenSpec.upto certAgreesSpec)) certAgreesUptoCard

/-- THE SECOND FORM's CARD OF 'wapentakelaw14.CertWrites'. -/
def certWritesUptoCard : Claim7 := { stood := { row := certWritesUptoRow, standIns := [], harness := (true, "bc9fec29261652d40446fc6f2539130e592e282cd2f0b258997f1d8a8fc0835d"), looks := false }, kinds := [], alts := [], laidByText := true, laidKinds := [.data], laidTests := true, laidLooks := .later }
def CertWritesUptoCardSaid : Prop := Claim7.holds Tryd.pinned (.plain (OpenSpec.upto certWritesSpec)) certWritesUptoCard

/-- THE SECOND FORM's CARD OF 'wapentakelaw15.ChainWrites'. -/
def chainWritesUptoCard : Claim7 := { stood := { row := chainWritesUptoRow, standIns := [], harness := (true, "bc9fec29261652d40446fc6f2539130e592e282cd2f0b258997f1d8a8fc0835d"), looks := false }, kinds := [], alts := [], laidByText := true, laidKinds := [.data], laidTests := true, laidLooks := .later }
def ChainWritesUptoCardSaid : Prop := Claim7.holds Tryd.pinned (.plain (OpenSpec.upto chainWritesSpec)) chainWritesUptoCard
end Rows
end Go.Proofs.YtjlmpdbagmdbiaaDoor
