/-
  No cell of these rows narrows 'for every input' (looked for: loops, veiled, ifaces, maps, wideKeys, modest, calm, conditions, laid).
  DERIVED. THE GIVEN ROWS OF THIS SEAT. 6 by the template 'for every input the law returns true; each argument reads behind the call as it read before'; 0 by the template 'total and deterministic' (their statements: YtmdjimkndeklmaaTotals.lean).
  GIVEN WITH THE SEED: the statements are not yours to turn. If you find one false, say at which input.
  Laid BY PROGRAM, IN A SANDBOX (cutbox-rows.mjs): the forced cells as the released guide's own fill.sh prints them over the translation 44cdbc82ae0b7000… (all of the seat's roots in one cut). By AI agents, Wed Nov 11 2026. No macro, syntax, notation, axiom, sorry.
-/
import Derived.Test.YtmdjimkndeklmaaChecked
import GoSem.Claim
import GoSem.ClaimJoined
import GoSem.ClaimMapViews
import Derived.JoinedTies
import Derived.KernelRfl
namespace Go.Proofs.Ytmdjimkndeklmaa
/- THE CELL 'sum', in the pinned program and in every row, IS THE sha256 OF THE DUMP (.gsa) THAT YtmdjimkndeklmaaProg.lean LOADS. Nothing in Lean hashes anything: it is a label: what it is worth is what the hold of that sum in a sandbox is worth. -/
noncomputable def Try.pinned : Pinned := { name := "ytmdjimkndeklmaa", sum := "44cdbc82ae0b7000524edd0bdb6c4dc53568823729c912a4fe8a1aa3bc752c40", checked := Try.checked }
namespace Rows
def none {H : Type} : Left H := { results := [], args := [] }

/-- 'wapentakelaw09.RequestSames': WHATEVER THE INPUT: true; the input reads as it did. -/
def requestSamesSpec : ChangeSpec := { name := "requestSames", fn := fun _ => fun
  | [d1, d2] => { results := [.lit (.bool true)], args := [d1, d2] }
  | _ => none }
def requestSamesRow : OpenClaim := { program := "ytmdjimkndeklmaa", sum := "44cdbc82ae0b7000524edd0bdb6c4dc53568823729c912a4fe8a1aa3bc752c40", func := "wapentake/wapentakelaw09.RequestSames", spec := "requestSames", apart := false }
def RequestSamesSaid : Prop := requestSamesRow.holds Try.pinned (OpenSpec.ofChange requestSamesSpec)

/-- ITS FALSE NEIGHBOUR: 'it returns false'. Refute it at one input. -/
def requestSamesWrong : ChangeSpec := { name := "requestSames", fn := fun _ => fun
  | [d1, d2] => { results := [.lit (.bool false)], args := [d1, d2] }
  | _ => none }
def RequestSamesWrongFalsely : Prop := requestSamesRow.holds Try.pinned (OpenSpec.ofChange requestSamesWrong)

/-- 'wapentakelaw12.BlockFollows': WHATEVER THE INPUT: true; the input reads as it did. -/
def blockFollowsSpec : ChangeSpec := { name := "blockFollows", fn := fun _ => fun
  | [d1, d2, d3, d4, d5] => { results := [.lit (.bool true)], args := [d1, d2, d3, d4, d5] }
  | _ => none }
def blockFollowsRow : OpenClaim := { program := "ytmdjimkndeklmaa", sum := "44cdbc82ae0b7000524edd0bdb6c4dc53568823729c912a4fe8a1aa3bc752c40", func := "wapentake/wapentakelaw12.BlockFollows", spec := "blockFollows", apart := false }
def BlockFollowsSaid : Prop := blockFollowsRow.holds Try.pinned (OpenSpec.ofChange blockFollowsSpec)

/-- ITS FALSE NEIGHBOUR: 'it returns false'. Refute it at one input. -/
def blockFollowsWrong : ChangeSpec := { name := "blockFollows", fn := fun _ => fun
  | [d1, d2, d3, d4, d5] => { results := [.lit (.bool false)], args := [d1, d2, d3, d4, d5] }
  | _ => none }
def BlockFollowsWrongFalsely : Prop := blockFollowsRow.holds Try.pinned (OpenSpec.ofChange blockFollowsWrong)

/-- 'wapentakelaw09.RequestAnswers': WHATEVER THE INPUT: true; the input reads as it did. -/
def requestAnswersSpec : ChangeSpec := { name := "requestAnswers", fn := fun _ => fun
  | [d1, d2, d3] => { results := [.lit (.bool true)], args := [d1, d2, d3] }
  | _ => none }
def requestAnswersRow : OpenClaim := { program := "ytmdjimkndeklmaa", sum := "44cdbc82ae0b7000524edd0bdb6c4dc53568823729c912a4fe8a1aa3bc752c40", func := "wapentake/wapentakelaw09.RequestAnswers", spec := "requestAnswers", apart := false }
def RequestAnswersSaid : Prop := requestAnswersRow.holds Try.pinned (OpenSpec.ofChange requestAnswersSpec)

/-- ITS FALSE NEIGHBOUR: 'it returns false'. Refute it at one input. -/
def requestAnswersWrong : ChangeSpec := { name := "requestAnswers", fn := fun _ => fun
  | [d1, d2, d3] => { results := [.lit (.bool false)], args := [d1, d2, d3] }
  | _ => none }
def RequestAnswersWrongFalsely : Prop := requestAnswersRow.holds Try.pinned (OpenSpec.ofChange requestAnswersWrong)

/-- 'wapentakelaw09.RequestReads': WHATEVER THE INPUT: true; the input reads as it did. -/
def requestReadsSpec : ChangeSpec := { name := "requestReads", fn := fun _ => fun
  | [d1, d2] => { results := [.lit (.bool true)], args := [d1, d2] }
  | _ => none }
def requestReadsRow : OpenClaim := { program := "ytmdjimkndeklmaa", sum := "44cdbc82ae0b7000524edd0bdb6c4dc53568823729c912a4fe8a1aa3bc752c40", func := "wapentake/wapentakelaw09.RequestReads", spec := "requestReads", apart := false }
def RequestReadsSaid : Prop := requestReadsRow.holds Try.pinned (OpenSpec.ofChange requestReadsSpec)

/-- ITS FALSE NEIGHBOUR: 'it returns false'. Refute it at one input. -/
def requestReadsWrong : ChangeSpec := { name := "requestReads", fn := fun _ => fun
  | [d1, d2] => { results := [.lit (.bool false)], args := [d1, d2] }
  | _ => none }
def RequestReadsWrongFalsely : Prop := requestReadsRow.holds Try.pinned (OpenSpec.ofChange requestReadsWrong)

/-- 'wapentakelaw12.BlockReads': WHATEVER THE INPUT: true; the input reads as it did. -/
def blockReadsSpec : ChangeSpec := { name := "blockReads", fn := fun _ => fun
  | [d1, d2] => { results := [.lit (.bool true)], args := [d1, d2] }
  | _ => none }
def blockReadsRow : OpenClaim := { program := "ytmdjimkndeklmaa", sum := "44cdbc82ae0b7000524edd0bdb6c4dc53568823729c912a4fe8a1aa3bc752c40", func := "wapentake/wapentakelaw12.BlockReads", spec := "blockReads", apart := false }
def BlockReadsSaid : Prop := blockReadsRow.holds Try.pinned (OpenSpec.ofChange blockReadsSpec)

/-- ITS FALSE NEIGHBOUR: 'it returns false'. Refute it at one input. -/
def blockReadsWrong : ChangeSpec := { name := "blockReads", fn := fun _ => fun
  | [d1, d2] => { results := [.lit (.bool false)], args := [d1, d2] }
  | _ => none }
def BlockReadsWrongFalsely : Prop := blockReadsRow.holds Try.pinned (OpenSpec.ofChange blockReadsWrong)

/-- 'wapentakelaw12.BlockCuts': WHATEVER THE INPUT: true; the input reads as it did. -/
def blockCutsSpec : ChangeSpec := { name := "blockCuts", fn := fun _ => fun
  | [d1, d2] => { results := [.lit (.bool true)], args := [d1, d2] }
  | _ => none }
def blockCutsRow : OpenClaim := { program := "ytmdjimkndeklmaa", sum := "44cdbc82ae0b7000524edd0bdb6c4dc53568823729c912a4fe8a1aa3bc752c40", func := "wapentake/wapentakelaw12.BlockCuts", spec := "blockCuts", apart := false }
def BlockCutsSaid : Prop := blockCutsRow.holds Try.pinned (OpenSpec.ofChange blockCutsSpec)

/-- ITS FALSE NEIGHBOUR: 'it returns false'. Refute it at one input. -/
def blockCutsWrong : ChangeSpec := { name := "blockCuts", fn := fun _ => fun
  | [d1, d2] => { results := [.lit (.bool false)], args := [d1, d2] }
  | _ => none }
def BlockCutsWrongFalsely : Prop := blockCutsRow.holds Try.pinned (OpenSpec.ofChange blockCutsWrong)

/- THE SECOND FORM. 'bulk': how many values and letters a reading holds, each counted each time it is reached (what is shared counts as often as it is met; a slice's spare places count too). A statement '..UptoSaid' is the law's where the arguments, and the package variables that the reading takes, are together of bulk at most 1048576: NARROWER than '..Said'. Prove '..Said' where nothing that the law and all that it calls make is longer than what came in: it says more and counts as full. Else prove '..UptoSaid'. A law counts once. -/
mutual
def uptoBulk {H : Type} : DataW H → Nat
  | .lit (.string bytes) => bytes.length + 1
  | .lit _ => 1
  | .nil => 1
  | .ptr d => uptoBulk d + 1
  | .slice elems spare => uptoBulkAll elems + uptoBulkAll spare + 1
  | .agg parts => uptoBulkAll parts + 1
  | .iface _ d => uptoBulk d + 1
  | .map entries => uptoBulkEntries entries + 1
  | .held _ => 1
def uptoBulkAll {H : Type} : List (DataW H) → Nat
  | [] => 0
  | d :: r => uptoBulk d + uptoBulkAll r
def uptoBulkEntries {H : Type} : List (Lit × DataW H) → Nat
  | [] => 0
  | x :: r => uptoBulkEntry x + uptoBulkEntries r
def uptoBulkEntry {H : Type} : Lit × DataW H → Nat
  | (.string bytes, d) => bytes.length + uptoBulk d + 1
  | (_, d) => uptoBulk d + 1
 end
def uptoSmall : (H : Type) → List (DataW H) → Bool := fun _ ds => decide (uptoBulkAll ds ≤ 1048576)
def OpenSpec.upto (s : _root_.Go.ChangeSpec) : _root_.Go.OpenSpec := { _root_.Go.OpenSpec.ofChange s with cond := some uptoSmall }

/-- 'wapentakelaw09.RequestSames', WHERE WHAT IT READS IS OF BULK AT MOST 1048576: true; the input reads as it did. -/
def requestSamesUptoRow : OpenClaim := { program := "ytmdjimkndeklmaa", sum := "44cdbc82ae0b7000524edd0bdb6c4dc53568823729c912a4fe8a1aa3bc752c40", func := "wapentake/wapentakelaw09.RequestSames", spec := "requestSames", apart := false, narrowed := true }
def RequestSamesUptoSaid : Prop := requestSamesUptoRow.holds Try.pinned (OpenSpec.upto requestSamesSpec)

/-- 'wapentakelaw12.BlockFollows', WHERE WHAT IT READS IS OF BULK AT MOST 1048576: true; the input reads as it did. -/
def blockFollowsUptoRow : OpenClaim := { program := "ytmdjimkndeklmaa", sum := "44cdbc82ae0b7000524edd0bdb6c4dc53568823729c912a4fe8a1aa3bc752c40", func := "wapentake/wapentakelaw12.BlockFollows", spec := "blockFollows", apart := false, narrowed := true }
def BlockFollowsUptoSaid : Prop := blockFollowsUptoRow.holds Try.pinned (OpenSpec.upto blockFollowsSpec)

/-- 'wapentakelaw09.RequestAnswers', WHERE WHAT IT READS IS OF BULK AT MOST 1048576: true; the input reads as it did. -/
def requestAnswersUptoRow : OpenClaim := { program := "ytmdjimkndeklmaa", sum := "44cdbc82ae0b7000524edd0bdb6c4dc53568823729c912a4fe8a1aa3bc752c40", func := "wapentake/wapentakelaw09.RequestAnswers", spec := "requestAnswers", apart := false, narrowed := true }
def RequestAnswersUptoSaid : Prop := requestAnswersUptoRow.holds Try.pinned (OpenSpec.upto requestAnswersSpec)

/-- 'wapentakelaw09.RequestReads', WHERE WHAT IT READS IS OF BULK AT MOST 1048576: true; the input reads as it did. -/
def requestReadsUptoRow : OpenClaim := { program := "ytmdjimkndeklmaa", sum := "44cdbc82ae0b7000524edd0bdb6c4dc53568823729c912a4fe8a1aa3bc752c40", func := "wapentake/wapentakelaw09.RequestReads", spec := "requestReads", apart := false, narrowed := true }
def RequestReadsUptoSaid : Prop := requestReadsUptoRow.holds Try.pinned (OpenSpec.upto requestReadsSpec)

/-- 'wapentakelaw12.BlockReads', WHERE WHAT IT READS IS OF BULK AT MOST 1048576: true; the input reads as it did. -/
def blockReadsUptoRow : OpenClaim := { program := "ytmdjimkndeklmaa", sum := "44cdbc82ae0b7000524edd0bdb6c4dc53568823729c912a4fe8a1aa3bc752c40", func := "wapentake/wapentakelaw12.BlockReads", spec := "blockReads", apart := false, narrowed := true }
def BlockReadsUptoSaid : Prop := blockReadsUptoRow.holds Try.pinned (OpenSpec.upto blockReadsSpec)

/-- 'wapentakelaw12.BlockCuts', WHERE WHAT IT READS IS OF BULK AT MOST 1048576: true; the input reads as it did. -/
def blockCutsUptoRow : OpenClaim := { program := "ytmdjimkndeklmaa", sum := "44cdbc82ae0b7000524edd0bdb6c4dc53568823729c912a4fe8a1aa3bc752c40", func := "wapentake/wapentakelaw12.BlockCuts", spec := "blockCuts", apart := false, narrowed := true }
def BlockCutsUptoSaid : Prop := blockCutsUptoRow.holds Try.pinned (OpenSpec.upto blockCutsSpec)

end Rows
end Go.Proofs.Ytmdjimkndeklmaa
