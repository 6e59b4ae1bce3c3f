/-
  DERIVED. GIVEN WITH THE SEED: THE CARDS: each row of YtmkkfccnacodoaaDoorRows.lean that lists a variable, with what it lists TIED to the program's text (the seventh form; the later family's looks); each row that meets fmt, with fmt's text TOLD by the authors' own Lean function (tested against real Go, not proved from fmt's source: count such statements apart). THE CARD IS WHAT COUNTS. Prove the row's statement (the work); the ties are given (YtmkkfccnacodoaaDoorTie.lean); close each card by the builder's one call (the guide's Derived/Test/ToyasCard.lean, 'card_holds'). Laid BY PROGRAM, IN A SANDBOX (cutbox-door.mjs). By AI agents, Wed Nov 11 2026. No macro, syntax, notation, axiom, sorry.
-/
import Derived.Test.YtmkkfccnacodoaaDoorRows
import GoSem.ClaimSeven
namespace Go.Proofs.YtmkkfccnacodoaaDoor
namespace Rows

/-- THE TIED CARD OF 'wapentakelaw03.TreeChecks'. -/
def treeChecksCard : Claim7 := { stood := { row := treeChecksRow, standIns := [], harness := (true, "3e1a7cbb6a31e78f97982a8dac3909f215a739b22f2e49e63b8eaca9e1ede480"), looks := false }, kinds := [], alts := [], laidByText := true, laidKinds := [.data], laidTests := true, laidLooks := .later }
def TreeChecksCardSaid : Prop := Claim7.holds Tryd.pinned (.plain (OpenSpec.ofChange treeChecksSpec)) treeChecksCard

/-- THE TIED CARD OF 'wapentakelaw03.TreeHalves'. -/
def treeHalvesCard : Claim7 := { stood := { row := treeHalvesRow, standIns := [], harness := (true, "3e1a7cbb6a31e78f97982a8dac3909f215a739b22f2e49e63b8eaca9e1ede480"), looks := false }, kinds := [], alts := [], laidByText := true, laidKinds := [.data], laidTests := true, laidLooks := .later }
def TreeHalvesCardSaid : Prop := Claim7.holds Tryd.pinned (.plain (OpenSpec.ofChange treeHalvesSpec)) treeHalvesCard

/-- THE TIED CARD OF 'wapentakelaw03.TreeRoots'. -/
def treeRootsCard : Claim7 := { stood := { row := treeRootsRow, standIns := [], harness := (true, "3e1a7cbb6a31e78f97982a8dac3909f215a739b22f2e49e63b8eaca9e1ede480"), looks := false }, kinds := [], alts := [], laidByText := true, laidKinds := [.data], laidTests := true, laidLooks := .later }
def TreeRootsCardSaid : Prop := Claim7.holds Tryd.pinned (.plain (OpenSpec.ofChange treeRootsSpec)) treeRootsCard

/-- THE TIED CARD OF 'wapentakelaw03.TreeProves'. -/
def treeProvesCard : Claim7 := { stood := { row := treeProvesRow, standIns := [], harness := (true, "3e1a7cbb6a31e78f97982a8dac3909f215a739b22f2e49e63b8eaca9e1ede480"), looks := false }, kinds := [], alts := [], laidByText := true, laidKinds := [.data], laidTests := true, laidLooks := .later }
def TreeProvesCardSaid : Prop := Claim7.holds Tryd.pinned (.plain (OpenSpec.ofChange treeProvesSpec)) treeProvesCard

/-- THE TIED CARD OF 'wapentakelaw03.TreeKeeps'. -/
def treeKeepsCard : Claim7 := { stood := { row := treeKeepsRow, standIns := [], harness := (true, "3e1a7cbb6a31e78f97982a8dac3909f215a739b22f2e49e63b8eaca9e1ede480"), looks := false }, kinds := [], alts := [], laidByText := true, laidKinds := [.data], laidTests := true, laidLooks := .later }
def TreeKeepsCardSaid : Prop := Claim7.holds Tryd.pinned (.plain (OpenSpec.ofChange treeKeepsSpec)) treeKeepsCard

/-- THE TIED CARD OF 'wapentakelaw03.TreePaths'. -/
def treePathsCard : Claim7 := { stood := { row := treePathsRow, standIns := [], harness := (true, "3e1a7cbb6a31e78f97982a8dac3909f215a739b22f2e49e63b8eaca9e1ede480"), looks := false }, kinds := [], alts := [], laidByText := true, laidKinds := [.data], laidTests := true, laidLooks := .later }
def TreePathsCardSaid : Prop := Claim7.holds Tryd.pinned (.plain (OpenSpec.ofChange treePathsSpec)) treePathsCard

/-- THE TIED CARD OF 'wapentakelaw04.OnceSigns'. -/
def onceSignsCard : Claim7 := { stood := { row := onceSignsRow, standIns := [], harness := (true, "3e1a7cbb6a31e78f97982a8dac3909f215a739b22f2e49e63b8eaca9e1ede480"), looks := false }, kinds := [], alts := [], laidByText := true, laidKinds := [.data], laidTests := true, laidLooks := .later }
def OnceSignsCardSaid : Prop := Claim7.holds Tryd.pinned (.plain (OpenSpec.ofChange onceSignsSpec)) onceSignsCard

/-- THE TIED CARD OF 'wapentakelaw04.OnceKeeps'. -/
def onceKeepsCard : Claim7 := { stood := { row := onceKeepsRow, standIns := [], harness := (true, "3e1a7cbb6a31e78f97982a8dac3909f215a739b22f2e49e63b8eaca9e1ede480"), looks := false }, kinds := [], alts := [], laidByText := true, laidKinds := [.data], laidTests := true, laidLooks := .later }
def OnceKeepsCardSaid : Prop := Claim7.holds Tryd.pinned (.plain (OpenSpec.ofChange onceKeepsSpec)) onceKeepsCard

/-- THE TIED CARD OF 'wapentakelaw04.OnceFits'. -/
def onceFitsCard : Claim7 := { stood := { row := onceFitsRow, standIns := [], harness := (true, "3e1a7cbb6a31e78f97982a8dac3909f215a739b22f2e49e63b8eaca9e1ede480"), looks := false }, kinds := [], alts := [], laidByText := true, laidKinds := [.data], laidTests := true, laidLooks := .later }
def OnceFitsCardSaid : Prop := Claim7.holds Tryd.pinned (.plain (OpenSpec.ofChange onceFitsSpec)) onceFitsCard

/-- THE SECOND FORM's CARD OF 'wapentakelaw03.TreeChecks'. -/
def treeChecksUptoCard : Claim7 := { stood := { row := treeChecksUptoRow, standIns := [], harness := (true, "3e1a7cbb6a31e78f97982a8dac3909f215a739b22f2e49e63b8eaca9e1ede480"), looks := false }, kinds := [], alts := [], laidByText := true, laidKinds := [.data], laidTests := true, laidLooks := .later }
def TreeChecksUptoCardSaid : Prop := Claim7.holds Tryd.pinned (.plain (OpenSpec.upto treeChecksSpec)) treeChecksUptoCard

/-- THE SECOND FORM's CARD OF 'wapentakelaw03.TreeHalves'. -/
def treeHalvesUptoCard : Claim7 := { stood := { row := treeHalvesUptoRow, standIns := [], harness := (true, "3e1a7cbb6a31e78f97982a8dac3909f215a739b22f2e49e63b8eaca9e1ede480"), looks := false }, kinds := [], alts := [], laidByText := true, laidKinds := [.data], laidTests := true, laidLooks := .later }
def TreeHalvesUptoCardSaid : Prop := Claim7.holds Tryd.pinned (.plain (OpenSpec.upto treeHalvesSpec)) treeHalvesUptoCard

/-- THE SECOND FORM's CARD OF 'wapentakelaw03.TreeRoots'. -/
def treeRootsUptoCard : Claim7 := { stood := { row := treeRootsUptoRow, standIns := [], harness := (true, "3e1a7cbb6a31e78f97982a8dac3909f215a739b22f2e49e63b8eaca9e1ede480"), looks := false }, kinds := [], alts := [], laidByText := true, laidKinds := [.data], laidTests := true, laidLooks := .later }
def TreeRootsUptoCardSaid : Prop := Claim7.holds Tryd.pinned (.plain (OpenSpec.upto treeRootsSpec)) treeRootsUptoCard

/-- THE SECOND FORM's CARD OF 'wapentakelaw03.TreeProves'. -/
def treeProvesUptoCard : Claim7 := { stood := { row := treeProvesUptoRow, standIns := [], harness := (true, "3e1a7cbb6a31e78f97982a8dac3909f215a739b22f2e49e63b8eaca9e1ede480"), looks := false }, kinds := [], alts := [], laidByText := true, laidKinds := [.data], laidTests := true, laidLooks := .later }
def TreeProvesUptoCardSaid : Prop := Claim7.holds Tryd.pinned (.plain (OpenSpec.upto treeProvesSpec)) treeProvesUptoCard

/-- THE SECOND FORM's CARD OF 'wapentakelaw03.TreeKeeps'. -/
def treeKeepsUptoCard : Claim7 := { stood := { row := treeKeepsUptoRow, standIns := [], harness := (true, "3e1a7cbb6a31e78f97982a8dac3909f215a739b22f2e49e63b8eaca9e1ede480"), looks := false }, kinds := [], alts := [], laidByText := true, laidKinds := [.data], laidTests := true, laidLooks := .later }
def TreeKeepsUptoCardSaid : Prop := Claim7.holds Tryd.pinned (.plain (OpenSpec.upto treeKeepsSpec)) treeKeepsUptoCard

/-- THE SECOND FORM's CARD OF 'wapentakelaw03.TreePaths'. -/
def treePathsUptoCard : Claim7 := { stood := { row := treePathsUptoRow, standIns := [], harness := (true, "3e1a7cbb6a31e78f97982a8dac3909f215a739b22f2e49e63b8eaca9e1ede480"), looks := false }, kinds := [], alts := [], laidByText := true, laidKinds := [.data], laidTests := true, laidLooks := .later }
def TreePathsUptoCardSaid : Prop := Claim7.holds Tryd.pinned (.plain (OpenSpec.upto treePathsSpec)) treePathsUptoCard

/-- THE SECOND FORM's CARD OF 'wapentakelaw04.OnceSigns'. -/
def onceSignsUptoCard : Claim7 := { stood := { row := onceSignsUptoRow, standIns := [], harness := (true, "3e1a7cbb6a31e78f97982a8dac3909f215a739b22f2e49e63b8eaca9e1ede480"), looks := false }, kinds := [], alts := [], laidByText := true, laidKinds := [.data], laidTests := true, laidLooks := .later }
def OnceSignsUptoCardSaid : Prop := Claim7.holds Tryd.pinned (.plain (OpenSpec.upto onceSignsSpec)) onceSignsUptoCard

/-- THE SECOND FORM's CARD OF 'wapentakelaw04.OnceKeeps'. -/
def onceKeepsUptoCard : Claim7 := { stood := { row := onceKeepsUptoRow, standIns := [], harness := (true, "3e1a7cbb6a31e78f97982a8dac3909f215a739b22f2e49e63b8eaca9e1ede480"), looks := false }, kinds := [], alts := [], laidByText := true, laidKinds := [.data], laidTests := true, laidLooks := .later }
def OnceKeepsUptoCardSaid : Prop := Claim7.holds Tryd.pinned (.plain (OpenSpec.upto onceKeepsSpec)) onceKeepsUptoCard

/-- THE SECOND FORM's CARD OF 'wapentakelaw04.OnceFits'. -/
def onceFitsUptoCard : Claim7 := { stood := { row := onceFitsUptoRow, standIns := [], harness := (true, "3e1a7cbb6a31e78f97982a8dac3909f215a739b22f2e49e63b8eaca9e1ede480"), looks := false }, kinds := [], alts := [], laidByText := true, laidKinds := [.data], laidTests := true, laidLooks := .later }
def OnceFitsUptoCardSaid : Prop := Claim7.holds Tryd.pinned (.plain (OpenSpec.upto onceFitsSpec)) onceFitsUptoCard
end Rows
end Go.Proofs.YtmkkfccnacodoaaDoor
