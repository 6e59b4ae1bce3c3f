/-
  DERIVED. GIVEN WITH THE SEED: THE CARDS: each row of YtmdjimkndeklmaaDoorRows.lean that lists a variable, with what it lists TIED to the program's text (the seventh form; the later family's looks); each row that meets fmt, with fmt's text TOLD by the authors' own Lean function (tested against real Go, not proved from fmt's source: count such statements apart). THE CARD IS WHAT COUNTS. Prove the row's statement (the work); the ties are given (YtmdjimkndeklmaaDoorTie.lean); close each card by the builder's one call (the guide's Derived/Test/ToyasCard.lean, 'card_holds'). Laid BY PROGRAM, IN A SANDBOX (cutbox-door.mjs). By AI agents, Wed Nov 11 2026. No macro, syntax, notation, axiom, sorry.
-/
import Derived.Test.YtmdjimkndeklmaaDoorRows
import GoSem.ClaimSeven
namespace Go.Proofs.YtmdjimkndeklmaaDoor
namespace Rows

/-- THE TIED CARD OF 'wapentakelaw09.RequestParts'. -/
def requestPartsCard : Claim7 := { stood := { row := requestPartsRow, standIns := [], harness := (true, "74087341679573732b3e9fd01c60af21417c3853b8f1519b59120f52c117b65a"), looks := false }, kinds := [], alts := [], laidByText := true, laidKinds := [.data], laidTests := true, laidLooks := .later }
def RequestPartsCardSaid : Prop := Claim7.holds Tryd.pinned (.plain (OpenSpec.ofChange requestPartsSpec)) requestPartsCard

/-- THE TIED CARD OF 'wapentakelaw12.BlockParts'. -/
def blockPartsCard : Claim7 := { stood := { row := blockPartsRow, standIns := [], harness := (true, "74087341679573732b3e9fd01c60af21417c3853b8f1519b59120f52c117b65a"), looks := false }, kinds := [], alts := [], laidByText := true, laidKinds := [.data], laidTests := true, laidLooks := .later }
def BlockPartsCardSaid : Prop := Claim7.holds Tryd.pinned (.plain (OpenSpec.ofChange blockPartsSpec)) blockPartsCard

/-- THE TIED CARD OF 'wapentakelaw05.KeysSign'. -/
def keysSignCard : Claim7 := { stood := { row := keysSignRow, standIns := [], harness := (true, "74087341679573732b3e9fd01c60af21417c3853b8f1519b59120f52c117b65a"), looks := false }, kinds := [], alts := [], laidByText := true, laidKinds := [.data], laidTests := true, laidLooks := .later }
def KeysSignCardSaid : Prop := Claim7.holds Tryd.pinned (.plain (OpenSpec.ofChange keysSignSpec)) keysSignCard

/-- THE TIED CARD OF 'wapentakelaw05.KeysCheck'. -/
def keysCheckCard : Claim7 := { stood := { row := keysCheckRow, standIns := [], harness := (true, "74087341679573732b3e9fd01c60af21417c3853b8f1519b59120f52c117b65a"), looks := false }, kinds := [], alts := [], laidByText := true, laidKinds := [.data], laidTests := true, laidLooks := .later }
def KeysCheckCardSaid : Prop := Claim7.holds Tryd.pinned (.plain (OpenSpec.ofChange keysCheckSpec)) keysCheckCard

/-- THE TIED CARD OF 'wapentakelaw05.KeysKeep'. -/
def keysKeepCard : Claim7 := { stood := { row := keysKeepRow, standIns := [], harness := (true, "74087341679573732b3e9fd01c60af21417c3853b8f1519b59120f52c117b65a"), looks := false }, kinds := [], alts := [], laidByText := true, laidKinds := [.data], laidTests := true, laidLooks := .later }
def KeysKeepCardSaid : Prop := Claim7.holds Tryd.pinned (.plain (OpenSpec.ofChange keysKeepSpec)) keysKeepCard

/-- THE TIED CARD OF 'wapentakelaw05.KeysWrite'. -/
def keysWriteCard : Claim7 := { stood := { row := keysWriteRow, standIns := [], harness := (true, "74087341679573732b3e9fd01c60af21417c3853b8f1519b59120f52c117b65a"), looks := false }, kinds := [], alts := [], laidByText := true, laidKinds := [.data], laidTests := true, laidLooks := .later }
def KeysWriteCardSaid : Prop := Claim7.holds Tryd.pinned (.plain (OpenSpec.ofChange keysWriteSpec)) keysWriteCard

/-- THE SECOND FORM's CARD OF 'wapentakelaw09.RequestParts'. -/
def requestPartsUptoCard : Claim7 := { stood := { row := requestPartsUptoRow, standIns := [], harness := (true, "74087341679573732b3e9fd01c60af21417c3853b8f1519b59120f52c117b65a"), looks := false }, kinds := [], alts := [], laidByText := true, laidKinds := [.data], laidTests := true, laidLooks := .later }
def RequestPartsUptoCardSaid : Prop := Claim7.holds Tryd.pinned (.plain (OpenSpec.upto requestPartsSpec)) requestPartsUptoCard

/-- THE SECOND FORM's CARD OF 'wapentakelaw12.BlockParts'. -/
def blockPartsUptoCard : Claim7 := { stood := { row := blockPartsUptoRow, standIns := [], harness := (true, "74087341679573732b3e9fd01c60af21417c3853b8f1519b59120f52c117b65a"), looks := false }, kinds := [], alts := [], laidByText := true, laidKinds := [.data], laidTests := true, laidLooks := .later }
def BlockPartsUptoCardSaid : Prop := Claim7.holds Tryd.pinned (.plain (OpenSpec.upto blockPartsSpec)) blockPartsUptoCard

/-- THE SECOND FORM's CARD OF 'wapentakelaw05.KeysSign'. -/
def keysSignUptoCard : Claim7 := { stood := { row := keysSignUptoRow, standIns := [], harness := (true, "74087341679573732b3e9fd01c60af21417c3853b8f1519b59120f52c117b65a"), looks := false }, kinds := [], alts := [], laidByText := true, laidKinds := [.data], laidTests := true, laidLooks := .later }
def KeysSignUptoCardSaid : Prop := Claim7.holds Tryd.pinned (.plain (OpenSpec.upto keysSignSpec)) keysSignUptoCard

/-- THE SECOND FORM's CARD OF 'wapentakelaw05.KeysCheck'. -/
def keysCheckUptoCard : Claim7 := { stood := { row := keysCheckUptoRow, standIns := [], harness := (true, "74087341679573732b3e9fd01c60af21417c3853b8f1519b59120f52c117b65a"), looks := false }, kinds := [], alts := [], laidByText := true, laidKinds := [.data], laidTests := true, laidLooks := .later }
def KeysCheckUptoCardSaid : Prop := Claim7.holds Tryd.pinned (.plain (OpenSpec.upto keysCheckSpec)) keysCheckUptoCard

/-- THE SECOND FORM's CARD OF 'wapentakelaw05.KeysKeep'. -/
def keysKeepUptoCard : Claim7 := { stood := { row := keysKeepUptoRow, standIns := [], harness := (true, "74087341679573732b3e9fd01c60af21417c3853b8f1519b59120f52c117b65a"), looks := false }, kinds := [], alts := [], laidByText := true, laidKinds := [.data], laidTests := true, laidLooks := .later }
def KeysKeepUptoCardSaid : Prop := Claim7.holds Tryd.pinned (.plain (OpenSpec.upto keysKeepSpec)) keysKeepUptoCard

/-- THE SECOND FORM's CARD OF 'wapentakelaw05.KeysWrite'. -/
def keysWriteUptoCard : Claim7 := { stood := { row := keysWriteUptoRow, standIns := [], harness := (true, "74087341679573732b3e9fd01c60af21417c3853b8f1519b59120f52c117b65a"), looks := false }, kinds := [], alts := [], laidByText := true, laidKinds := [.data], laidTests := true, laidLooks := .later }
def KeysWriteUptoCardSaid : Prop := Claim7.holds Tryd.pinned (.plain (OpenSpec.upto keysWriteSpec)) keysWriteUptoCard
end Rows
end Go.Proofs.YtmdjimkndeklmaaDoor
