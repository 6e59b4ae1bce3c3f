/-
  DERIVED. GIVEN WITH THE SEED: THE CARDS: each row of YtglkfbhjimnboaaDoorRows.lean that lists a variable, with what it lists TIED to the program's text (the seventh form; the later family's looks); each row that meets fmt, with fmt's text TOLD by the authors' own Lean function (tested against real Go, not proved from fmt's source: count such statements apart). THE CARD IS WHAT COUNTS. Prove the row's statement (the work); the ties are given (YtglkfbhjimnboaaDoorTie.lean); close each card by the builder's one call (the guide's Derived/Test/ToyasCard.lean, 'card_holds'). Laid BY PROGRAM, IN A SANDBOX (cutbox-door.mjs). By AI agents, Wed Nov 11 2026. No macro, syntax, notation, axiom, sorry.
-/
import Derived.Test.YtglkfbhjimnboaaDoorRows
import GoSem.ClaimSeven
namespace Go.Proofs.YtglkfbhjimnboaaDoor
namespace Rows

/-- THE TIED CARD OF 'wapentakelaw13.VoteOnce'. -/
def voteOnceCard : Claim7 := { stood := { row := voteOnceRow, standIns := [], harness := (true, "283cf48c1902c6f5a934404bd7977f9d302368479fbe90e11ac38bc719d4f25f"), looks := false }, kinds := [], alts := [], laidByText := true, laidKinds := [.data], laidTests := true, laidLooks := .later }
def VoteOnceCardSaid : Prop := Claim7.holds Tryd.pinned (.plain (OpenSpec.ofChange voteOnceSpec)) voteOnceCard

/-- THE TIED CARD OF 'wapentakelaw13.VoteGrows'. -/
def voteGrowsCard : Claim7 := { stood := { row := voteGrowsRow, standIns := [], harness := (true, "283cf48c1902c6f5a934404bd7977f9d302368479fbe90e11ac38bc719d4f25f"), looks := false }, kinds := [], alts := [], laidByText := true, laidKinds := [.data], laidTests := true, laidLooks := .later }
def VoteGrowsCardSaid : Prop := Claim7.holds Tryd.pinned (.plain (OpenSpec.ofChange voteGrowsSpec)) voteGrowsCard

/-- THE SECOND FORM's CARD OF 'wapentakelaw13.VoteOnce'. -/
def voteOnceUptoCard : Claim7 := { stood := { row := voteOnceUptoRow, standIns := [], harness := (true, "283cf48c1902c6f5a934404bd7977f9d302368479fbe90e11ac38bc719d4f25f"), looks := false }, kinds := [], alts := [], laidByText := true, laidKinds := [.data], laidTests := true, laidLooks := .later }
def VoteOnceUptoCardSaid : Prop := Claim7.holds Tryd.pinned (.plain (OpenSpec.upto voteOnceSpec)) voteOnceUptoCard

/-- THE SECOND FORM's CARD OF 'wapentakelaw13.VoteGrows'. -/
def voteGrowsUptoCard : Claim7 := { stood := { row := voteGrowsUptoRow, standIns := [], harness := (true, "283cf48c1902c6f5a934404bd7977f9d302368479fbe90e11ac38bc719d4f25f"), looks := false }, kinds := [], alts := [], laidByText := true, laidKinds := [.data], laidTests := true, laidLooks := .later }
def VoteGrowsUptoCardSaid : Prop := Claim7.holds Tryd.pinned (.plain (OpenSpec.upto voteGrowsSpec)) voteGrowsUptoCard
end Rows
end Go.Proofs.YtglkfbhjimnboaaDoor
