/-
  No cell of these rows narrows 'for every input' (looked for: loops, veiled, ifaces, maps, wideKeys, modest, calm, conditions, laid).
  DERIVED. THE GIVEN ROWS OF THIS SEAT. 4 by the template 'for every input the law returns true; each argument reads behind the call as it read before'; 0 by the template 'total and deterministic' (their statements: YtglkfbhjimnboaaTotals.lean).
  GIVEN WITH THE SEED: the statements are not yours to turn. If you find one false, say at which input.
  Laid BY PROGRAM, IN A SANDBOX (cutbox-rows.mjs): the forced cells as the released guide's own fill.sh prints them over the translation 8bc9b6e1128bd549… (all of the seat's roots in one cut). By AI agents, Wed Nov 11 2026. No macro, syntax, notation, axiom, sorry.
-/
import Derived.Test.YtglkfbhjimnboaaChecked
import GoSem.Claim
import GoSem.ClaimJoined
import GoSem.ClaimMapViews
import Derived.JoinedTies
import Derived.KernelRfl
namespace Go.Proofs.Ytglkfbhjimnboaa
/- THE CELL 'sum', in the pinned program and in every row, IS THE sha256 OF THE DUMP (.gsa) THAT YtglkfbhjimnboaaProg.lean LOADS. Nothing in Lean hashes anything: it is a label: what it is worth is what the hold of that sum in a sandbox is worth. -/
noncomputable def Try.pinned : Pinned := { name := "ytglkfbhjimnboaa", sum := "8bc9b6e1128bd549f8c1a2885301ef3da8bd90b90aaffb3bf4f3481d8fdb4462", checked := Try.checked }
namespace Rows
def none {H : Type} : Left H := { results := [], args := [] }

/-- 'wapentakelaw20.MailReads': WHATEVER THE INPUT: true; the input reads as it did. -/
def mailReadsSpec : ChangeSpec := { name := "mailReads", fn := fun _ => fun
  | [d] => { results := [.lit (.bool true)], args := [d] }
  | _ => none }
def mailReadsRow : OpenClaim := { program := "ytglkfbhjimnboaa", sum := "8bc9b6e1128bd549f8c1a2885301ef3da8bd90b90aaffb3bf4f3481d8fdb4462", func := "wapentake/wapentakelaw20.MailReads", spec := "mailReads", apart := false }
def MailReadsSaid : Prop := mailReadsRow.holds Try.pinned (OpenSpec.ofChange mailReadsSpec)

/-- ITS FALSE NEIGHBOUR: 'it returns false'. Refute it at one input. -/
def mailReadsWrong : ChangeSpec := { name := "mailReads", fn := fun _ => fun
  | [d] => { results := [.lit (.bool false)], args := [d] }
  | _ => none }
def MailReadsWrongFalsely : Prop := mailReadsRow.holds Try.pinned (OpenSpec.ofChange mailReadsWrong)

/-- 'wapentakelaw20.MailBack': WHATEVER THE INPUT: true; the input reads as it did. -/
def mailBackSpec : ChangeSpec := { name := "mailBack", fn := fun _ => fun
  | [d1, d2] => { results := [.lit (.bool true)], args := [d1, d2] }
  | _ => none }
def mailBackRow : OpenClaim := { program := "ytglkfbhjimnboaa", sum := "8bc9b6e1128bd549f8c1a2885301ef3da8bd90b90aaffb3bf4f3481d8fdb4462", func := "wapentake/wapentakelaw20.MailBack", spec := "mailBack", apart := false }
def MailBackSaid : Prop := mailBackRow.holds Try.pinned (OpenSpec.ofChange mailBackSpec)

/-- ITS FALSE NEIGHBOUR: 'it returns false'. Refute it at one input. -/
def mailBackWrong : ChangeSpec := { name := "mailBack", fn := fun _ => fun
  | [d1, d2] => { results := [.lit (.bool false)], args := [d1, d2] }
  | _ => none }
def MailBackWrongFalsely : Prop := mailBackRow.holds Try.pinned (OpenSpec.ofChange mailBackWrong)

/-- 'wapentakelaw20.MailLong': WHATEVER THE INPUT: true; the input reads as it did. -/
def mailLongSpec : ChangeSpec := { name := "mailLong", fn := fun _ => fun
  | [d1, d2] => { results := [.lit (.bool true)], args := [d1, d2] }
  | _ => none }
def mailLongRow : OpenClaim := { program := "ytglkfbhjimnboaa", sum := "8bc9b6e1128bd549f8c1a2885301ef3da8bd90b90aaffb3bf4f3481d8fdb4462", func := "wapentake/wapentakelaw20.MailLong", spec := "mailLong", apart := false }
def MailLongSaid : Prop := mailLongRow.holds Try.pinned (OpenSpec.ofChange mailLongSpec)

/-- ITS FALSE NEIGHBOUR: 'it returns false'. Refute it at one input. -/
def mailLongWrong : ChangeSpec := { name := "mailLong", fn := fun _ => fun
  | [d1, d2] => { results := [.lit (.bool false)], args := [d1, d2] }
  | _ => none }
def MailLongWrongFalsely : Prop := mailLongRow.holds Try.pinned (OpenSpec.ofChange mailLongWrong)

/-- 'wapentakelaw20.MailParts': WHATEVER THE INPUT: true; the input reads as it did. -/
def mailPartsSpec : ChangeSpec := { name := "mailParts", fn := fun _ => fun
  | [d1, d2] => { results := [.lit (.bool true)], args := [d1, d2] }
  | _ => none }
def mailPartsRow : OpenClaim := { program := "ytglkfbhjimnboaa", sum := "8bc9b6e1128bd549f8c1a2885301ef3da8bd90b90aaffb3bf4f3481d8fdb4462", func := "wapentake/wapentakelaw20.MailParts", spec := "mailParts", apart := false }
def MailPartsSaid : Prop := mailPartsRow.holds Try.pinned (OpenSpec.ofChange mailPartsSpec)

/-- ITS FALSE NEIGHBOUR: 'it returns false'. Refute it at one input. -/
def mailPartsWrong : ChangeSpec := { name := "mailParts", fn := fun _ => fun
  | [d1, d2] => { results := [.lit (.bool false)], args := [d1, d2] }
  | _ => none }
def MailPartsWrongFalsely : Prop := mailPartsRow.holds Try.pinned (OpenSpec.ofChange mailPartsWrong)

/- THE SECOND FORM. 'bulk': how many values and letters a reading holds, each counted each time it is reached (what is shared counts as often as it is met; a slice's spare places count too). A statement '..UptoSaid' is the law's where the arguments, and the package variables that the reading takes, are together of bulk at most 1048576: NARROWER than '..Said'. Prove '..Said' where nothing that the law and all that it calls make is longer than what came in: it says more and counts as full. Else prove '..UptoSaid'. A law counts once. -/
mutual
def uptoBulk {H : Type} : DataW H → Nat
  | .lit (.string bytes) => bytes.length + 1
  | .lit _ => 1
  | .nil => 1
  | .ptr d => uptoBulk d + 1
  | .slice elems spare => uptoBulkAll elems + uptoBulkAll spare + 1
  | .agg parts => uptoBulkAll parts + 1
  | .iface _ d => uptoBulk d + 1
  | .map entries => uptoBulkEntries entries + 1
  | .held _ => 1
def uptoBulkAll {H : Type} : List (DataW H) → Nat
  | [] => 0
  | d :: r => uptoBulk d + uptoBulkAll r
def uptoBulkEntries {H : Type} : List (Lit × DataW H) → Nat
  | [] => 0
  | x :: r => uptoBulkEntry x + uptoBulkEntries r
def uptoBulkEntry {H : Type} : Lit × DataW H → Nat
  | (.string bytes, d) => bytes.length + uptoBulk d + 1
  | (_, d) => uptoBulk d + 1
 end
def uptoSmall : (H : Type) → List (DataW H) → Bool := fun _ ds => decide (uptoBulkAll ds ≤ 1048576)
def OpenSpec.upto (s : _root_.Go.ChangeSpec) : _root_.Go.OpenSpec := { _root_.Go.OpenSpec.ofChange s with cond := some uptoSmall }

/-- 'wapentakelaw20.MailReads', WHERE WHAT IT READS IS OF BULK AT MOST 1048576: true; the input reads as it did. -/
def mailReadsUptoRow : OpenClaim := { program := "ytglkfbhjimnboaa", sum := "8bc9b6e1128bd549f8c1a2885301ef3da8bd90b90aaffb3bf4f3481d8fdb4462", func := "wapentake/wapentakelaw20.MailReads", spec := "mailReads", apart := false, narrowed := true }
def MailReadsUptoSaid : Prop := mailReadsUptoRow.holds Try.pinned (OpenSpec.upto mailReadsSpec)

/-- 'wapentakelaw20.MailBack', WHERE WHAT IT READS IS OF BULK AT MOST 1048576: true; the input reads as it did. -/
def mailBackUptoRow : OpenClaim := { program := "ytglkfbhjimnboaa", sum := "8bc9b6e1128bd549f8c1a2885301ef3da8bd90b90aaffb3bf4f3481d8fdb4462", func := "wapentake/wapentakelaw20.MailBack", spec := "mailBack", apart := false, narrowed := true }
def MailBackUptoSaid : Prop := mailBackUptoRow.holds Try.pinned (OpenSpec.upto mailBackSpec)

/-- 'wapentakelaw20.MailLong', WHERE WHAT IT READS IS OF BULK AT MOST 1048576: true; the input reads as it did. -/
def mailLongUptoRow : OpenClaim := { program := "ytglkfbhjimnboaa", sum := "8bc9b6e1128bd549f8c1a2885301ef3da8bd90b90aaffb3bf4f3481d8fdb4462", func := "wapentake/wapentakelaw20.MailLong", spec := "mailLong", apart := false, narrowed := true }
def MailLongUptoSaid : Prop := mailLongUptoRow.holds Try.pinned (OpenSpec.upto mailLongSpec)

/-- 'wapentakelaw20.MailParts', WHERE WHAT IT READS IS OF BULK AT MOST 1048576: true; the input reads as it did. -/
def mailPartsUptoRow : OpenClaim := { program := "ytglkfbhjimnboaa", sum := "8bc9b6e1128bd549f8c1a2885301ef3da8bd90b90aaffb3bf4f3481d8fdb4462", func := "wapentake/wapentakelaw20.MailParts", spec := "mailParts", apart := false, narrowed := true }
def MailPartsUptoSaid : Prop := mailPartsUptoRow.holds Try.pinned (OpenSpec.upto mailPartsSpec)

end Rows
end Go.Proofs.Ytglkfbhjimnboaa
