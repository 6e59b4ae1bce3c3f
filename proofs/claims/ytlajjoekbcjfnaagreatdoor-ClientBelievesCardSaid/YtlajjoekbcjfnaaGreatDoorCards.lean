/-
  DERIVED. GIVEN WITH THE SEED: THE CARDS: each row of YtlajjoekbcjfnaaGreatDoorRows.lean that lists a variable, with what it lists TIED to the program's text (the seventh form; the later family's looks); each row that meets fmt, with fmt's text TOLD by the authors' own Lean function (tested against real Go, not proved from fmt's source: count such statements apart). THE CARD IS WHAT COUNTS. Prove the row's statement (the work); the ties are given (YtlajjoekbcjfnaaGreatDoorTie.lean); close each card by the builder's one call (the guide's Derived/Test/ToyasCard.lean, 'card_holds'). Laid BY PROGRAM, IN A SANDBOX (cutbox-door.mjs). By AI agents, Wed Nov 11 2026. No macro, syntax, notation, axiom, sorry.
-/
import Derived.Test.YtlajjoekbcjfnaaGreatDoorRows
import GoSem.ClaimSeven
namespace Go.Proofs.YtlajjoekbcjfnaaGreatDoor
namespace Rows

/-- THE TIED CARD OF 'wapentakelaw22.ClientFinds'. -/
def clientFindsCard : Claim7 := { stood := { row := clientFindsRow, standIns := [], harness := (true, "d6b820741c2f7075b69e9e998f048fe884a074415d065e53f24e662dc93f2978"), looks := false }, kinds := [], alts := [], laidByText := true, laidKinds := [.data], laidTests := true, laidLooks := .later }
def ClientFindsCardSaid : Prop := Claim7.holds Tryz.pinned (.plain (OpenSpec.ofChange clientFindsSpec)) clientFindsCard

/-- THE TIED CARD OF 'wapentakelaw22.ClientOnce'. -/
def clientOnceCard : Claim7 := { stood := { row := clientOnceRow, standIns := [], harness := (true, "d6b820741c2f7075b69e9e998f048fe884a074415d065e53f24e662dc93f2978"), looks := false }, kinds := [], alts := [], laidByText := true, laidKinds := [.data], laidTests := true, laidLooks := .later }
def ClientOnceCardSaid : Prop := Claim7.holds Tryz.pinned (.plain (OpenSpec.ofChange clientOnceSpec)) clientOnceCard

/-- THE TIED CARD OF 'wapentakelaw22.ClientBelieves'. -/
def clientBelievesCard : Claim7 := { stood := { row := clientBelievesRow, standIns := [], harness := (true, "d6b820741c2f7075b69e9e998f048fe884a074415d065e53f24e662dc93f2978"), looks := false }, kinds := [], alts := [], laidByText := true, laidKinds := [.data], laidTests := true, laidLooks := .later }
def ClientBelievesCardSaid : Prop := Claim7.holds Tryz.pinned (.plain (OpenSpec.ofChange clientBelievesSpec)) clientBelievesCard

/-- THE SECOND FORM's CARD OF 'wapentakelaw22.ClientFinds'. -/
def clientFindsUptoCard : Claim7 := { stood := { row := clientFindsUptoRow, standIns := [], harness := (true, "d6b820741c2f7075b69e9e998f048fe884a074415d065e53f24e662dc93f2978"), looks := false }, kinds := [], alts := [], laidByText := true, laidKinds := [.data], laidTests := true, laidLooks := .later }
def ClientFindsUptoCardSaid : Prop := Claim7.holds Tryz.pinned (.plain (OpenSpec.upto clientFindsSpec)) clientFindsUptoCard

/-- THE SECOND FORM's CARD OF 'wapentakelaw22.ClientOnce'. -/
def clientOnceUptoCard : Claim7 := { stood := { row := clientOnceUptoRow, standIns := [], harness := (true, "d6b820741c2f7075b69e9e998f048fe884a074415d065e53f24e662dc93f2978"), looks := false }, kinds := [], alts := [], laidByText := true, laidKinds := [.data], laidTests := true, laidLooks := .later }
def ClientOnceUptoCardSaid : Prop := Claim7.holds Tryz.pinned (.plain (OpenSpec.upto clientOnceSpec)) clientOnceUptoCard

/-- THE SECOND FORM's CARD OF 'wapentakelaw22.ClientBelieves'. -/
def clientBelievesUptoCard : Claim7 := { stood := { row := clientBelievesUptoRow, standIns := [], harness := (true, "d6b820741c2f7075b69e9e998f048fe884a074415d065e53f24e662dc93f2978"), looks := false }, kinds := [], alts := [], laidByText := true, laidKinds := [.data], laidTests := true, laidLooks := .later }
def ClientBelievesUptoCardSaid : Prop := Claim7.holds Tryz.pinned (.plain (OpenSpec.upto clientBelievesSpec)) clientBelievesUptoCard
end Rows
end Go.Proofs.YtlajjoekbcjfnaaGreatDoor
