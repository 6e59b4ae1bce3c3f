/-
  DERIVED. GIVEN WITH THE SEED: THE CARDS: each row of YtphggannefpleaaDoorRows.lean that lists a variable, with what it lists TIED to the program's text (the seventh form; the later family's looks); each row that meets fmt, with fmt's text TOLD by the authors' own Lean function (tested against real Go, not proved from fmt's source: count such statements apart). THE CARD IS WHAT COUNTS. Prove the row's statement (the work); the ties are given (YtphggannefpleaaDoorTie.lean); close each card by the builder's one call (the guide's Derived/Test/ToyasCard.lean, 'card_holds'). Laid BY PROGRAM, IN A SANDBOX (cutbox-door.mjs). By AI agents, Wed Nov 11 2026. No macro, syntax, notation, axiom, sorry.
-/
import Derived.Test.YtphggannefpleaaDoorRows
import GoSem.ClaimSeven
namespace Go.Proofs.YtphggannefpleaaDoor
namespace Rows

/-- THE TIED CARD OF 'wapentakelaw06.RingOnce'. -/
def ringOnceCard : Claim7 := { stood := { row := ringOnceRow, standIns := [], harness := (true, "6003638eb14f7d01b296aaf7dd61fdf93fba4edf87ac7189ba1f1b4b78d48663"), looks := false }, kinds := [], alts := [], laidByText := true, laidKinds := [.data], laidTests := true, laidLooks := .later }
def RingOnceCardSaid : Prop := Claim7.holds Tryd.pinned (.plain (OpenSpec.ofChange ringOnceSpec)) ringOnceCard

/-- THE TIED CARD OF 'wapentakelaw06.RingCounts'. -/
def ringCountsCard : Claim7 := { stood := { row := ringCountsRow, standIns := [], harness := (true, "6003638eb14f7d01b296aaf7dd61fdf93fba4edf87ac7189ba1f1b4b78d48663"), looks := false }, kinds := [], alts := [], laidByText := true, laidKinds := [.data], laidTests := true, laidLooks := .later }
def RingCountsCardSaid : Prop := Claim7.holds Tryd.pinned (.plain (OpenSpec.ofChange ringCountsSpec)) ringCountsCard

/-- THE TIED CARD OF 'wapentakelaw06.RingApart'. -/
def ringApartCard : Claim7 := { stood := { row := ringApartRow, standIns := [], harness := (true, "6003638eb14f7d01b296aaf7dd61fdf93fba4edf87ac7189ba1f1b4b78d48663"), looks := false }, kinds := [], alts := [], laidByText := true, laidKinds := [.data], laidTests := true, laidLooks := .later }
def RingApartCardSaid : Prop := Claim7.holds Tryd.pinned (.plain (OpenSpec.ofChange ringApartSpec)) ringApartCard

/-- THE TIED CARD OF 'wapentakelaw06.RingDoes'. -/
def ringDoesCard : Claim7 := { stood := { row := ringDoesRow, standIns := [], harness := (true, "6003638eb14f7d01b296aaf7dd61fdf93fba4edf87ac7189ba1f1b4b78d48663"), looks := false }, kinds := [], alts := [], laidByText := true, laidKinds := [.data], laidTests := true, laidLooks := .later }
def RingDoesCardSaid : Prop := Claim7.holds Tryd.pinned (.plain (OpenSpec.ofChange ringDoesSpec)) ringDoesCard

/-- THE TIED CARD OF 'wapentakelaw06.RingSkips'. -/
def ringSkipsCard : Claim7 := { stood := { row := ringSkipsRow, standIns := [], harness := (true, "6003638eb14f7d01b296aaf7dd61fdf93fba4edf87ac7189ba1f1b4b78d48663"), looks := false }, kinds := [], alts := [], laidByText := true, laidKinds := [.data], laidTests := true, laidLooks := .later }
def RingSkipsCardSaid : Prop := Claim7.holds Tryd.pinned (.plain (OpenSpec.ofChange ringSkipsSpec)) ringSkipsCard

/-- THE SECOND FORM's CARD OF 'wapentakelaw06.RingOnce'. -/
def ringOnceUptoCard : Claim7 := { stood := { row := ringOnceUptoRow, standIns := [], harness := (true, "6003638eb14f7d01b296aaf7dd61fdf93fba4edf87ac7189ba1f1b4b78d48663"), looks := false }, kinds := [], alts := [], laidByText := true, laidKinds := [.data], laidTests := true, laidLooks := .later }
def RingOnceUptoCardSaid : Prop := Claim7.holds Tryd.pinned (.plain (OpenSpec.upto ringOnceSpec)) ringOnceUptoCard

/-- THE SECOND FORM's CARD OF 'wapentakelaw06.RingCounts'. -/
def ringCountsUptoCard : Claim7 := { stood := { row := ringCountsUptoRow, standIns := [], harness := (true, "6003638eb14f7d01b296aaf7dd61fdf93fba4edf87ac7189ba1f1b4b78d48663"), looks := false }, kinds := [], alts := [], laidByText := true, laidKinds := [.data], laidTests := true, laidLooks := .later }
def RingCountsUptoCardSaid : Prop := Claim7.holds Tryd.pinned (.plain (OpenSpec.upto ringCountsSpec)) ringCountsUptoCard

/-- THE SECOND FORM's CARD OF 'wapentakelaw06.RingApart'. -/
def ringApartUptoCard : Claim7 := { stood := { row := ringApartUptoRow, standIns := [], harness := (true, "6003638eb14f7d01b296aaf7dd61fdf93fba4edf87ac7189ba1f1b4b78d48663"), looks := false }, kinds := [], alts := [], laidByText := true, laidKinds := [.data], laidTests := true, laidLooks := .later }
def RingApartUptoCardSaid : Prop := Claim7.holds Tryd.pinned (.plain (OpenSpec.upto ringApartSpec)) ringApartUptoCard

/-- THE SECOND FORM's CARD OF 'wapentakelaw06.RingDoes'. -/
def ringDoesUptoCard : Claim7 := { stood := { row := ringDoesUptoRow, standIns := [], harness := (true, "6003638eb14f7d01b296aaf7dd61fdf93fba4edf87ac7189ba1f1b4b78d48663"), looks := false }, kinds := [], alts := [], laidByText := true, laidKinds := [.data], laidTests := true, laidLooks := .later }
def RingDoesUptoCardSaid : Prop := Claim7.holds Tryd.pinned (.plain (OpenSpec.upto ringDoesSpec)) ringDoesUptoCard

/-- THE SECOND FORM's CARD OF 'wapentakelaw06.RingSkips'. -/
def ringSkipsUptoCard : Claim7 := { stood := { row := ringSkipsUptoRow, standIns := [], harness := (true, "6003638eb14f7d01b296aaf7dd61fdf93fba4edf87ac7189ba1f1b4b78d48663"), looks := false }, kinds := [], alts := [], laidByText := true, laidKinds := [.data], laidTests := true, laidLooks := .later }
def RingSkipsUptoCardSaid : Prop := Claim7.holds Tryd.pinned (.plain (OpenSpec.upto ringSkipsSpec)) ringSkipsUptoCard
end Rows
end Go.Proofs.YtphggannefpleaaDoor
