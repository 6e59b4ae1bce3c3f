/-
  DERIVED. GIVEN WITH THE SEED: THE CARDS: each row of YtbmdaaehogpeeaaDoorRows.lean that lists a variable, with what it lists TIED to the program's text (the seventh form; the later family's looks); each row that meets fmt, with fmt's text TOLD by the authors' own Lean function (tested against real Go, not proved from fmt's source: count such statements apart). THE CARD IS WHAT COUNTS. Prove the row's statement (the work); the ties are given (YtbmdaaehogpeeaaDoorTie.lean); close each card by the builder's one call (the guide's Derived/Test/ToyasCard.lean, 'card_holds'). Laid BY PROGRAM, IN A SANDBOX (cutbox-door.mjs). By AI agents, Wed Nov 11 2026. No macro, syntax, notation, axiom, sorry.
-/
import Derived.Test.YtbmdaaehogpeeaaDoorRows
import GoSem.ClaimSeven
namespace Go.Proofs.YtbmdaaehogpeeaaDoor
namespace Rows

/-- THE TIED CARD OF 'wapentakelaw18.SnapApart'. -/
def snapApartCard : Claim7 := { stood := { row := snapApartRow, standIns := [], harness := (true, "957d8e8a17ed38787ba257f21a4cdd1fa5e681da19d556272b60524efd974aa8"), looks := false }, kinds := [], alts := [], laidByText := true, laidKinds := [.data], laidTests := true, laidLooks := .later }
def SnapApartCardSaid : Prop := Claim7.holds Tryd.pinned (.plain (OpenSpec.ofChange snapApartSpec)) snapApartCard

/-- THE TIED CARD OF 'wapentakelaw11.ChunkChecks'. -/
def chunkChecksCard : Claim7 := { stood := { row := chunkChecksRow, standIns := [], harness := (true, "957d8e8a17ed38787ba257f21a4cdd1fa5e681da19d556272b60524efd974aa8"), looks := false }, kinds := [], alts := [], laidByText := true, laidKinds := [.data], laidTests := true, laidLooks := .later }
def ChunkChecksCardSaid : Prop := Claim7.holds Tryd.pinned (.plain (OpenSpec.ofChange chunkChecksSpec)) chunkChecksCard

/-- THE TIED CARD OF 'wapentakelaw11.ChunkParts'. -/
def chunkPartsCard : Claim7 := { stood := { row := chunkPartsRow, standIns := [], harness := (true, "957d8e8a17ed38787ba257f21a4cdd1fa5e681da19d556272b60524efd974aa8"), looks := false }, kinds := [], alts := [], laidByText := true, laidKinds := [.data], laidTests := true, laidLooks := .later }
def ChunkPartsCardSaid : Prop := Claim7.holds Tryd.pinned (.plain (OpenSpec.ofChange chunkPartsSpec)) chunkPartsCard

/-- THE SECOND FORM's CARD OF 'wapentakelaw18.SnapApart'. -/
def snapApartUptoCard : Claim7 := { stood := { row := snapApartUptoRow, standIns := [], harness := (true, "957d8e8a17ed38787ba257f21a4cdd1fa5e681da19d556272b60524efd974aa8"), looks := false }, kinds := [], alts := [], laidByText := true, laidKinds := [.data], laidTests := true, laidLooks := .later }
def SnapApartUptoCardSaid : Prop := Claim7.holds Tryd.pinned (.plain (OpenSpec.upto snapApartSpec)) snapApartUptoCard

/-- THE SECOND FORM's CARD OF 'wapentakelaw11.ChunkChecks'. -/
def chunkChecksUptoCard : Claim7 := { stood := { row := chunkChecksUptoRow, standIns := [], harness := (true, "957d8e8a17ed38787ba257f21a4cdd1fa5e681da19d556272b60524efd974aa8"), looks := false }, kinds := [], alts := [], laidByText := true, laidKinds := [.data], laidTests := true, laidLooks := .later }
def ChunkChecksUptoCardSaid : Prop := Claim7.holds Tryd.pinned (.plain (OpenSpec.upto chunkChecksSpec)) chunkChecksUptoCard

/-- THE SECOND FORM's CARD OF 'wapentakelaw11.ChunkParts'. -/
def chunkPartsUptoCard : Claim7 := { stood := { row := chunkPartsUptoRow, standIns := [], harness := (true, "957d8e8a17ed38787ba257f21a4cdd1fa5e681da19d556272b60524efd974aa8"), looks := false }, kinds := [], alts := [], laidByText := true, laidKinds := [.data], laidTests := true, laidLooks := .later }
def ChunkPartsUptoCardSaid : Prop := Claim7.holds Tryd.pinned (.plain (OpenSpec.upto chunkPartsSpec)) chunkPartsUptoCard
end Rows
end Go.Proofs.YtbmdaaehogpeeaaDoor
