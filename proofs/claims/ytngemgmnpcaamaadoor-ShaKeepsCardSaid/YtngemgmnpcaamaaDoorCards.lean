/-
  DERIVED. GIVEN WITH THE SEED: THE CARDS: each row of YtngemgmnpcaamaaDoorRows.lean that lists a variable, with what it lists TIED to the program's text (the seventh form; the later family's looks); each row that meets fmt, with fmt's text TOLD by the authors' own Lean function (tested against real Go, not proved from fmt's source: count such statements apart). THE CARD IS WHAT COUNTS. Prove the row's statement (the work); the ties are given (YtngemgmnpcaamaaDoorTie.lean); close each card by the builder's one call (the guide's Derived/Test/ToyasCard.lean, 'card_holds'). Laid BY PROGRAM, IN A SANDBOX (cutbox-door.mjs). By AI agents, Wed Nov 11 2026. No macro, syntax, notation, axiom, sorry.
-/
import Derived.Test.YtngemgmnpcaamaaDoorRows
import GoSem.ClaimSeven
namespace Go.Proofs.YtngemgmnpcaamaaDoor
namespace Rows

/-- THE TIED CARD OF 'wapentakelaw02.ShaIs'. -/
def shaIsCard : Claim7 := { stood := { row := shaIsRow, standIns := [], harness := (true, "a3ebcec7e318f66d71044eaf24a92229197a79eb822cfb760e084c335957a91c"), looks := false }, kinds := [], alts := [], laidByText := true, laidKinds := [.data], laidTests := true, laidLooks := .later }
def ShaIsCardSaid : Prop := Claim7.holds Tryd.pinned (.plain (OpenSpec.ofChange shaIsSpec)) shaIsCard

/-- THE TIED CARD OF 'wapentakelaw02.ShaEnds'. -/
def shaEndsCard : Claim7 := { stood := { row := shaEndsRow, standIns := [], harness := (true, "a3ebcec7e318f66d71044eaf24a92229197a79eb822cfb760e084c335957a91c"), looks := false }, kinds := [], alts := [], laidByText := true, laidKinds := [.data], laidTests := true, laidLooks := .later }
def ShaEndsCardSaid : Prop := Claim7.holds Tryd.pinned (.plain (OpenSpec.ofChange shaEndsSpec)) shaEndsCard

/-- THE TIED CARD OF 'wapentakelaw02.ShaKeeps'. -/
def shaKeepsCard : Claim7 := { stood := { row := shaKeepsRow, standIns := [], harness := (true, "a3ebcec7e318f66d71044eaf24a92229197a79eb822cfb760e084c335957a91c"), looks := false }, kinds := [], alts := [], laidByText := true, laidKinds := [.data], laidTests := true, laidLooks := .later }
def ShaKeepsCardSaid : Prop := Claim7.holds Tryd.pinned (.plain (OpenSpec.ofChange shaKeepsSpec)) shaKeepsCard

/-- THE TIED CARD OF 'wapentakelaw02.ShaCuts'. -/
def shaCutsCard : Claim7 := { stood := { row := shaCutsRow, standIns := [], harness := (true, "a3ebcec7e318f66d71044eaf24a92229197a79eb822cfb760e084c335957a91c"), looks := false }, kinds := [], alts := [], laidByText := true, laidKinds := [.data], laidTests := true, laidLooks := .later }
def ShaCutsCardSaid : Prop := Claim7.holds Tryd.pinned (.plain (OpenSpec.ofChange shaCutsSpec)) shaCutsCard

/-- THE TIED CARD OF 'wapentakelaw02.ShaPairs'. -/
def shaPairsCard : Claim7 := { stood := { row := shaPairsRow, standIns := [], harness := (true, "a3ebcec7e318f66d71044eaf24a92229197a79eb822cfb760e084c335957a91c"), looks := false }, kinds := [], alts := [], laidByText := true, laidKinds := [.data], laidTests := true, laidLooks := .later }
def ShaPairsCardSaid : Prop := Claim7.holds Tryd.pinned (.plain (OpenSpec.ofChange shaPairsSpec)) shaPairsCard

/-- THE SECOND FORM's CARD OF 'wapentakelaw02.ShaIs'. -/
def shaIsUptoCard : Claim7 := { stood := { row := shaIsUptoRow, standIns := [], harness := (true, "a3ebcec7e318f66d71044eaf24a92229197a79eb822cfb760e084c335957a91c"), looks := false }, kinds := [], alts := [], laidByText := true, laidKinds := [.data], laidTests := true, laidLooks := .later }
def ShaIsUptoCardSaid : Prop := Claim7.holds Tryd.pinned (.plain (OpenSpec.upto shaIsSpec)) shaIsUptoCard

/-- THE SECOND FORM's CARD OF 'wapentakelaw02.ShaEnds'. -/
def shaEndsUptoCard : Claim7 := { stood := { row := shaEndsUptoRow, standIns := [], harness := (true, "a3ebcec7e318f66d71044eaf24a92229197a79eb822cfb760e084c335957a91c"), looks := false }, kinds := [], alts := [], laidByText := true, laidKinds := [.data], laidTests := true, laidLooks := .later }
def ShaEndsUptoCardSaid : Prop := Claim7.holds Tryd.pinned (.plain (OpenSpec.upto shaEndsSpec)) shaEndsUptoCard

/-- THE SECOND FORM's CARD OF 'wapentakelaw02.ShaKeeps'. -/
def shaKeepsUptoCard : Claim7 := { stood := { row := shaKeepsUptoRow, standIns := [], harness := (true, "a3ebcec7e318f66d71044eaf24a92229197a79eb822cfb760e084c335957a91c"), looks := false }, kinds := [], alts := [], laidByText := true, laidKinds := [.data], laidTests := true, laidLooks := .later }
def ShaKeepsUptoCardSaid : Prop := Claim7.holds Tryd.pinned (.plain (OpenSpec.upto shaKeepsSpec)) shaKeepsUptoCard

/-- THE SECOND FORM's CARD OF 'wapentakelaw02.ShaCuts'. -/
def shaCutsUptoCard : Claim7 := { stood := { row := shaCutsUptoRow, standIns := [], harness := (true, "a3ebcec7e318f66d71044eaf24a92229197a79eb822cfb760e084c335957a91c"), looks := false }, kinds := [], alts := [], laidByText := true, laidKinds := [.data], laidTests := true, laidLooks := .later }
def ShaCutsUptoCardSaid : Prop := Claim7.holds Tryd.pinned (.plain (OpenSpec.upto shaCutsSpec)) shaCutsUptoCard

/-- THE SECOND FORM's CARD OF 'wapentakelaw02.ShaPairs'. -/
def shaPairsUptoCard : Claim7 := { stood := { row := shaPairsUptoRow, standIns := [], harness := (true, "a3ebcec7e318f66d71044eaf24a92229197a79eb822cfb760e084c335957a91c"), looks := false }, kinds := [], alts := [], laidByText := true, laidKinds := [.data], laidTests := true, laidLooks := .later }
def ShaPairsUptoCardSaid : Prop := Claim7.holds Tryd.pinned (.plain (OpenSpec.upto shaPairsSpec)) shaPairsUptoCard
end Rows
end Go.Proofs.YtngemgmnpcaamaaDoor
