/-
  No cell of these rows narrows 'for every input' (looked for: loops, veiled, ifaces, maps, wideKeys, modest, calm, conditions, laid).
  DERIVED. THE GIVEN ROWS OF THIS SEAT. 5 by the template 'for every input the law returns true; each argument reads behind the call as it read before'; 0 by the template 'total and deterministic' (their statements: YthmnkpehifgjeaaTotals.lean).
  GIVEN WITH THE SEED: the statements are not yours to turn. If you find one false, say at which input.
  Laid BY PROGRAM, IN A SANDBOX (cutbox-rows.mjs): the forced cells as the released guide's own fill.sh prints them over the translation 34fc66c0fa0a9125… (all of the seat's roots in one cut). By AI agents, Wed Nov 11 2026. No macro, syntax, notation, axiom, sorry.
-/
import Derived.Test.YthmnkpehifgjeaaChecked
import GoSem.Claim
import GoSem.ClaimJoined
import GoSem.ClaimMapViews
import Derived.JoinedTies
import Derived.KernelRfl
namespace Go.Proofs.Ythmnkpehifgjeaa
/- THE CELL 'sum', in the pinned program and in every row, IS THE sha256 OF THE DUMP (.gsa) THAT YthmnkpehifgjeaaProg.lean LOADS. Nothing in Lean hashes anything: it is a label: what it is worth is what the hold of that sum in a sandbox is worth. -/
noncomputable def Try.pinned : Pinned := { name := "ythmnkpehifgjeaa", sum := "34fc66c0fa0a9125b80a484c16593498273ac7c05123ea4d7f3a86452c791d2d", checked := Try.checked }
namespace Rows
def none {H : Type} : Left H := { results := [], args := [] }

/-- 'wapentakelaw16.DiskLoses': WHATEVER THE INPUT: true; the input reads as it did. -/
def diskLosesSpec : ChangeSpec := { name := "diskLoses", fn := fun _ => fun
  | [d1, d2, d3, d4] => { results := [.lit (.bool true)], args := [d1, d2, d3, d4] }
  | _ => none }
def diskLosesRow : OpenClaim := { program := "ythmnkpehifgjeaa", sum := "34fc66c0fa0a9125b80a484c16593498273ac7c05123ea4d7f3a86452c791d2d", func := "wapentake/wapentakelaw16.DiskLoses", spec := "diskLoses", apart := false }
def DiskLosesSaid : Prop := diskLosesRow.holds Try.pinned (OpenSpec.ofChange diskLosesSpec)

/-- ITS FALSE NEIGHBOUR: 'it returns false'. Refute it at one input. -/
def diskLosesWrong : ChangeSpec := { name := "diskLoses", fn := fun _ => fun
  | [d1, d2, d3, d4] => { results := [.lit (.bool false)], args := [d1, d2, d3, d4] }
  | _ => none }
def DiskLosesWrongFalsely : Prop := diskLosesRow.holds Try.pinned (OpenSpec.ofChange diskLosesWrong)

/-- 'wapentakelaw16.DiskKeeps': WHATEVER THE INPUT: true; the input reads as it did. -/
def diskKeepsSpec : ChangeSpec := { name := "diskKeeps", fn := fun _ => fun
  | [d1, d2] => { results := [.lit (.bool true)], args := [d1, d2] }
  | _ => none }
def diskKeepsRow : OpenClaim := { program := "ythmnkpehifgjeaa", sum := "34fc66c0fa0a9125b80a484c16593498273ac7c05123ea4d7f3a86452c791d2d", func := "wapentake/wapentakelaw16.DiskKeeps", spec := "diskKeeps", apart := false }
def DiskKeepsSaid : Prop := diskKeepsRow.holds Try.pinned (OpenSpec.ofChange diskKeepsSpec)

/-- ITS FALSE NEIGHBOUR: 'it returns false'. Refute it at one input. -/
def diskKeepsWrong : ChangeSpec := { name := "diskKeeps", fn := fun _ => fun
  | [d1, d2] => { results := [.lit (.bool false)], args := [d1, d2] }
  | _ => none }
def DiskKeepsWrongFalsely : Prop := diskKeepsRow.holds Try.pinned (OpenSpec.ofChange diskKeepsWrong)

/-- 'wapentakelaw16.DiskInstalls': WHATEVER THE INPUT: true; the input reads as it did. -/
def diskInstallsSpec : ChangeSpec := { name := "diskInstalls", fn := fun _ => fun
  | [d1, d2, d3, d4, d5] => { results := [.lit (.bool true)], args := [d1, d2, d3, d4, d5] }
  | _ => none }
def diskInstallsRow : OpenClaim := { program := "ythmnkpehifgjeaa", sum := "34fc66c0fa0a9125b80a484c16593498273ac7c05123ea4d7f3a86452c791d2d", func := "wapentake/wapentakelaw16.DiskInstalls", spec := "diskInstalls", apart := false }
def DiskInstallsSaid : Prop := diskInstallsRow.holds Try.pinned (OpenSpec.ofChange diskInstallsSpec)

/-- ITS FALSE NEIGHBOUR: 'it returns false'. Refute it at one input. -/
def diskInstallsWrong : ChangeSpec := { name := "diskInstalls", fn := fun _ => fun
  | [d1, d2, d3, d4, d5] => { results := [.lit (.bool false)], args := [d1, d2, d3, d4, d5] }
  | _ => none }
def DiskInstallsWrongFalsely : Prop := diskInstallsRow.holds Try.pinned (OpenSpec.ofChange diskInstallsWrong)

/-- 'wapentakelaw16.DiskFull': WHATEVER THE INPUT: true; the input reads as it did. -/
def diskFullSpec : ChangeSpec := { name := "diskFull", fn := fun _ => fun
  | [d1, d2, d3] => { results := [.lit (.bool true)], args := [d1, d2, d3] }
  | _ => none }
def diskFullRow : OpenClaim := { program := "ythmnkpehifgjeaa", sum := "34fc66c0fa0a9125b80a484c16593498273ac7c05123ea4d7f3a86452c791d2d", func := "wapentake/wapentakelaw16.DiskFull", spec := "diskFull", apart := false }
def DiskFullSaid : Prop := diskFullRow.holds Try.pinned (OpenSpec.ofChange diskFullSpec)

/-- ITS FALSE NEIGHBOUR: 'it returns false'. Refute it at one input. -/
def diskFullWrong : ChangeSpec := { name := "diskFull", fn := fun _ => fun
  | [d1, d2, d3] => { results := [.lit (.bool false)], args := [d1, d2, d3] }
  | _ => none }
def DiskFullWrongFalsely : Prop := diskFullRow.holds Try.pinned (OpenSpec.ofChange diskFullWrong)

/-- 'wapentakelaw16.DiskApart': WHATEVER THE INPUT: true; the input reads as it did. -/
def diskApartSpec : ChangeSpec := { name := "diskApart", fn := fun _ => fun
  | [d1, d2, d3] => { results := [.lit (.bool true)], args := [d1, d2, d3] }
  | _ => none }
def diskApartRow : OpenClaim := { program := "ythmnkpehifgjeaa", sum := "34fc66c0fa0a9125b80a484c16593498273ac7c05123ea4d7f3a86452c791d2d", func := "wapentake/wapentakelaw16.DiskApart", spec := "diskApart", unfollowed := true, recurses := true, apart := false }
def DiskApartSaid : Prop := diskApartRow.holds Try.pinned (OpenSpec.ofChange diskApartSpec)

/-- ITS FALSE NEIGHBOUR: 'it returns false'. Refute it at one input. -/
def diskApartWrong : ChangeSpec := { name := "diskApart", fn := fun _ => fun
  | [d1, d2, d3] => { results := [.lit (.bool false)], args := [d1, d2, d3] }
  | _ => none }
def DiskApartWrongFalsely : Prop := diskApartRow.holds Try.pinned (OpenSpec.ofChange diskApartWrong)

/- THE SECOND FORM. 'bulk': how many values and letters a reading holds, each counted each time it is reached (what is shared counts as often as it is met; a slice's spare places count too). A statement '..UptoSaid' is the law's where the arguments, and the package variables that the reading takes, are together of bulk at most 1048576: NARROWER than '..Said'. Prove '..Said' where nothing that the law and all that it calls make is longer than what came in: it says more and counts as full. Else prove '..UptoSaid'. A law counts once. -/
mutual
def uptoBulk {H : Type} : DataW H → Nat
  | .lit (.string bytes) => bytes.length + 1
  | .lit _ => 1
  | .nil => 1
  | .ptr d => uptoBulk d + 1
  | .slice elems spare => uptoBulkAll elems + uptoBulkAll spare + 1
  | .agg parts => uptoBulkAll parts + 1
  | .iface _ d => uptoBulk d + 1
  | .map entries => uptoBulkEntries entries + 1
  | .held _ => 1
def uptoBulkAll {H : Type} : List (DataW H) → Nat
  | [] => 0
  | d :: r => uptoBulk d + uptoBulkAll r
def uptoBulkEntries {H : Type} : List (Lit × DataW H) → Nat
  | [] => 0
  | x :: r => uptoBulkEntry x + uptoBulkEntries r
def uptoBulkEntry {H : Type} : Lit × DataW H → Nat
  | (.string bytes, d) => bytes.length + uptoBulk d + 1
  | (_, d) => uptoBulk d + 1
 end
def uptoSmall : (H : Type) → List (DataW H) → Bool := fun _ ds => decide (uptoBulkAll ds ≤ 1048576)
def OpenSpec.upto (s : _root_.Go.ChangeSpec) : _root_.Go.OpenSpec := { _root_.Go.OpenSpec.ofChange s with cond := some uptoSmall }

/-- 'wapentakelaw16.DiskLoses', WHERE WHAT IT READS IS OF BULK AT MOST 1048576: true; the input reads as it did. -/
def diskLosesUptoRow : OpenClaim := { program := "ythmnkpehifgjeaa", sum := "34fc66c0fa0a9125b80a484c16593498273ac7c05123ea4d7f3a86452c791d2d", func := "wapentake/wapentakelaw16.DiskLoses", spec := "diskLoses", apart := false, narrowed := true }
def DiskLosesUptoSaid : Prop := diskLosesUptoRow.holds Try.pinned (OpenSpec.upto diskLosesSpec)

/-- 'wapentakelaw16.DiskKeeps', WHERE WHAT IT READS IS OF BULK AT MOST 1048576: true; the input reads as it did. -/
def diskKeepsUptoRow : OpenClaim := { program := "ythmnkpehifgjeaa", sum := "34fc66c0fa0a9125b80a484c16593498273ac7c05123ea4d7f3a86452c791d2d", func := "wapentake/wapentakelaw16.DiskKeeps", spec := "diskKeeps", apart := false, narrowed := true }
def DiskKeepsUptoSaid : Prop := diskKeepsUptoRow.holds Try.pinned (OpenSpec.upto diskKeepsSpec)

/-- 'wapentakelaw16.DiskInstalls', WHERE WHAT IT READS IS OF BULK AT MOST 1048576: true; the input reads as it did. -/
def diskInstallsUptoRow : OpenClaim := { program := "ythmnkpehifgjeaa", sum := "34fc66c0fa0a9125b80a484c16593498273ac7c05123ea4d7f3a86452c791d2d", func := "wapentake/wapentakelaw16.DiskInstalls", spec := "diskInstalls", apart := false, narrowed := true }
def DiskInstallsUptoSaid : Prop := diskInstallsUptoRow.holds Try.pinned (OpenSpec.upto diskInstallsSpec)

/-- 'wapentakelaw16.DiskFull', WHERE WHAT IT READS IS OF BULK AT MOST 1048576: true; the input reads as it did. -/
def diskFullUptoRow : OpenClaim := { program := "ythmnkpehifgjeaa", sum := "34fc66c0fa0a9125b80a484c16593498273ac7c05123ea4d7f3a86452c791d2d", func := "wapentake/wapentakelaw16.DiskFull", spec := "diskFull", apart := false, narrowed := true }
def DiskFullUptoSaid : Prop := diskFullUptoRow.holds Try.pinned (OpenSpec.upto diskFullSpec)

/-- 'wapentakelaw16.DiskApart', WHERE WHAT IT READS IS OF BULK AT MOST 1048576: true; the input reads as it did. -/
def diskApartUptoRow : OpenClaim := { program := "ythmnkpehifgjeaa", sum := "34fc66c0fa0a9125b80a484c16593498273ac7c05123ea4d7f3a86452c791d2d", func := "wapentake/wapentakelaw16.DiskApart", spec := "diskApart", unfollowed := true, recurses := true, apart := false, narrowed := true }
def DiskApartUptoSaid : Prop := diskApartUptoRow.holds Try.pinned (OpenSpec.upto diskApartSpec)

end Rows
end Go.Proofs.Ythmnkpehifgjeaa
