/-
  NARROWER THAN 'FOR EVERY INPUT', by the rows' own cells (each row's printed sentence says how): TreeChecks: laid · TreeHalves: laid · TreeRoots: laid · TreeProves: laid · TreeKeeps: laid · TreePaths: laid · OnceSigns: laid · OnceKeeps: laid · OnceFits: laid.
  DERIVED. THE GIVEN ROWS OF THIS SEAT. 9 by the template 'for every input the law returns true; each argument reads behind the call as it read before'; 0 by the template 'total and deterministic' (their statements: YtmkkfccnacodoaaDoorTotals.lean).
  GIVEN WITH THE SEED: the statements are not yours to turn. If you find one false, say at which input.
  Laid BY PROGRAM, IN A SANDBOX (cutbox-rows.mjs): the forced cells as the released guide's own fill.sh prints them over the translation 3d9d683a6d19c0b5… (all of the seat's roots in one cut). By AI agents, Wed Nov 11 2026. No macro, syntax, notation, axiom, sorry.
-/
import Derived.Test.YtmkkfccnacodoaaDoorChecked
import GoSem.Claim
import GoSem.ClaimJoined
import GoSem.ClaimMapViews
import Derived.JoinedTies
import Derived.KernelRfl
namespace Go.Proofs.YtmkkfccnacodoaaDoor
/- THE CELL 'sum', in the pinned program and in every row, IS THE sha256 OF THE DUMP (.gsa) THAT YtmkkfccnacodoaaDoorProg.lean LOADS. Nothing in Lean hashes anything: it is a label: what it is worth is what the hold of that sum in a sandbox is worth. -/
noncomputable def Tryd.pinned : Pinned := { name := "ytmkkfccnacodoaadoor", sum := "3d9d683a6d19c0b596deb072070a2df9867f2585d8a8d92118a1f0716b1b32e1", checked := Tryd.checked }
namespace Rows
def none {H : Type} : Left H := { results := [], args := [] }

/- WHAT THE LISTED PACKAGE-LEVEL VARIABLES READ AS WHEN THE CALL BEGINS. Each datum BY PROGRAM (the guide's laid-datum.mjs) off the statement by which the dump's own 'gosem.cut.vars' lays the variable. In a bare row this is a premise. The card (YtmkkfccnacodoaaDoorCards.lean) ties it to the program's text. -/
def laid_wapentake_sha_table {H : Type} : DataW H := .agg [.lit (.int .u32 1116352408), .lit (.int .u32 1899447441), .lit (.int .u32 3049323471), .lit (.int .u32 3921009573), .lit (.int .u32 961987163), .lit (.int .u32 1508970993), .lit (.int .u32 2453635748), .lit (.int .u32 2870763221), .lit (.int .u32 3624381080), .lit (.int .u32 310598401), .lit (.int .u32 607225278), .lit (.int .u32 1426881987), .lit (.int .u32 1925078388), .lit (.int .u32 2162078206), .lit (.int .u32 2614888103), .lit (.int .u32 3248222580), .lit (.int .u32 3835390401), .lit (.int .u32 4022224774), .lit (.int .u32 264347078), .lit (.int .u32 604807628), .lit (.int .u32 770255983), .lit (.int .u32 1249150122), .lit (.int .u32 1555081692), .lit (.int .u32 1996064986), .lit (.int .u32 2554220882), .lit (.int .u32 2821834349), .lit (.int .u32 2952996808), .lit (.int .u32 3210313671), .lit (.int .u32 3336571891), .lit (.int .u32 3584528711), .lit (.int .u32 113926993), .lit (.int .u32 338241895), .lit (.int .u32 666307205), .lit (.int .u32 773529912), .lit (.int .u32 1294757372), .lit (.int .u32 1396182291), .lit (.int .u32 1695183700), .lit (.int .u32 1986661051), .lit (.int .u32 2177026350), .lit (.int .u32 2456956037), .lit (.int .u32 2730485921), .lit (.int .u32 2820302411), .lit (.int .u32 3259730800), .lit (.int .u32 3345764771), .lit (.int .u32 3516065817), .lit (.int .u32 3600352804), .lit (.int .u32 4094571909), .lit (.int .u32 275423344), .lit (.int .u32 430227734), .lit (.int .u32 506948616), .lit (.int .u32 659060556), .lit (.int .u32 883997877), .lit (.int .u32 958139571), .lit (.int .u32 1322822218), .lit (.int .u32 1537002063), .lit (.int .u32 1747873779), .lit (.int .u32 1955562222), .lit (.int .u32 2024104815), .lit (.int .u32 2227730452), .lit (.int .u32 2361852424), .lit (.int .u32 2428436474), .lit (.int .u32 2756734187), .lit (.int .u32 3204031479), .lit (.int .u32 3329325298)]

/-- 'wapentakelaw03.TreeChecks': WHATEVER THE INPUT: true; the input reads as it did. -/
def treeChecksSpec : ChangeSpec := { name := "treeChecks", fn := fun _ => fun
  | [d1, d2, d3, d4, d5] => { results := [.lit (.bool true)], args := [d1, d2, d3, d4, d5] }
  | _ => none }
def treeChecksRow : OpenClaim := { program := "ytmkkfccnacodoaadoor", sum := "3d9d683a6d19c0b596deb072070a2df9867f2585d8a8d92118a1f0716b1b32e1", func := "wapentake/wapentakelaw03.TreeChecks", spec := "treeChecks", recurses := true, named := ["wapentake/sha.table"], apart := false, laid := [("wapentake/sha.table", laid_wapentake_sha_table)] }
def TreeChecksSaid : Prop := treeChecksRow.holds Tryd.pinned (OpenSpec.ofChange treeChecksSpec)

/-- ITS FALSE NEIGHBOUR: 'it returns false'. Refute it at one input. -/
def treeChecksWrong : ChangeSpec := { name := "treeChecks", fn := fun _ => fun
  | [d1, d2, d3, d4, d5] => { results := [.lit (.bool false)], args := [d1, d2, d3, d4, d5] }
  | _ => none }
def TreeChecksWrongFalsely : Prop := treeChecksRow.holds Tryd.pinned (OpenSpec.ofChange treeChecksWrong)

/-- 'wapentakelaw03.TreeHalves': WHATEVER THE INPUT: true; the input reads as it did. -/
def treeHalvesSpec : ChangeSpec := { name := "treeHalves", fn := fun _ => fun
  | [d1, d2] => { results := [.lit (.bool true)], args := [d1, d2] }
  | _ => none }
def treeHalvesRow : OpenClaim := { program := "ytmkkfccnacodoaadoor", sum := "3d9d683a6d19c0b596deb072070a2df9867f2585d8a8d92118a1f0716b1b32e1", func := "wapentake/wapentakelaw03.TreeHalves", spec := "treeHalves", named := ["wapentake/sha.table"], apart := false, laid := [("wapentake/sha.table", laid_wapentake_sha_table)] }
def TreeHalvesSaid : Prop := treeHalvesRow.holds Tryd.pinned (OpenSpec.ofChange treeHalvesSpec)

/-- ITS FALSE NEIGHBOUR: 'it returns false'. Refute it at one input. -/
def treeHalvesWrong : ChangeSpec := { name := "treeHalves", fn := fun _ => fun
  | [d1, d2] => { results := [.lit (.bool false)], args := [d1, d2] }
  | _ => none }
def TreeHalvesWrongFalsely : Prop := treeHalvesRow.holds Tryd.pinned (OpenSpec.ofChange treeHalvesWrong)

/-- 'wapentakelaw03.TreeRoots': WHATEVER THE INPUT: true; the input reads as it did. -/
def treeRootsSpec : ChangeSpec := { name := "treeRoots", fn := fun _ => fun
  | [d1, d2, d3] => { results := [.lit (.bool true)], args := [d1, d2, d3] }
  | _ => none }
def treeRootsRow : OpenClaim := { program := "ytmkkfccnacodoaadoor", sum := "3d9d683a6d19c0b596deb072070a2df9867f2585d8a8d92118a1f0716b1b32e1", func := "wapentake/wapentakelaw03.TreeRoots", spec := "treeRoots", recurses := true, named := ["wapentake/sha.table"], apart := false, laid := [("wapentake/sha.table", laid_wapentake_sha_table)] }
def TreeRootsSaid : Prop := treeRootsRow.holds Tryd.pinned (OpenSpec.ofChange treeRootsSpec)

/-- ITS FALSE NEIGHBOUR: 'it returns false'. Refute it at one input. -/
def treeRootsWrong : ChangeSpec := { name := "treeRoots", fn := fun _ => fun
  | [d1, d2, d3] => { results := [.lit (.bool false)], args := [d1, d2, d3] }
  | _ => none }
def TreeRootsWrongFalsely : Prop := treeRootsRow.holds Tryd.pinned (OpenSpec.ofChange treeRootsWrong)

/-- 'wapentakelaw03.TreeProves': WHATEVER THE INPUT: true; the input reads as it did. -/
def treeProvesSpec : ChangeSpec := { name := "treeProves", fn := fun _ => fun
  | [d1, d2, d3] => { results := [.lit (.bool true)], args := [d1, d2, d3] }
  | _ => none }
def treeProvesRow : OpenClaim := { program := "ytmkkfccnacodoaadoor", sum := "3d9d683a6d19c0b596deb072070a2df9867f2585d8a8d92118a1f0716b1b32e1", func := "wapentake/wapentakelaw03.TreeProves", spec := "treeProves", named := ["wapentake/sha.table"], apart := false, laid := [("wapentake/sha.table", laid_wapentake_sha_table)] }
def TreeProvesSaid : Prop := treeProvesRow.holds Tryd.pinned (OpenSpec.ofChange treeProvesSpec)

/-- ITS FALSE NEIGHBOUR: 'it returns false'. Refute it at one input. -/
def treeProvesWrong : ChangeSpec := { name := "treeProves", fn := fun _ => fun
  | [d1, d2, d3] => { results := [.lit (.bool false)], args := [d1, d2, d3] }
  | _ => none }
def TreeProvesWrongFalsely : Prop := treeProvesRow.holds Tryd.pinned (OpenSpec.ofChange treeProvesWrong)

/-- 'wapentakelaw03.TreeKeeps': WHATEVER THE INPUT: true; the input reads as it did. -/
def treeKeepsSpec : ChangeSpec := { name := "treeKeeps", fn := fun _ => fun
  | [d1, d2] => { results := [.lit (.bool true)], args := [d1, d2] }
  | _ => none }
def treeKeepsRow : OpenClaim := { program := "ytmkkfccnacodoaadoor", sum := "3d9d683a6d19c0b596deb072070a2df9867f2585d8a8d92118a1f0716b1b32e1", func := "wapentake/wapentakelaw03.TreeKeeps", spec := "treeKeeps", named := ["wapentake/sha.table"], apart := false, laid := [("wapentake/sha.table", laid_wapentake_sha_table)] }
def TreeKeepsSaid : Prop := treeKeepsRow.holds Tryd.pinned (OpenSpec.ofChange treeKeepsSpec)

/-- ITS FALSE NEIGHBOUR: 'it returns false'. Refute it at one input. -/
def treeKeepsWrong : ChangeSpec := { name := "treeKeeps", fn := fun _ => fun
  | [d1, d2] => { results := [.lit (.bool false)], args := [d1, d2] }
  | _ => none }
def TreeKeepsWrongFalsely : Prop := treeKeepsRow.holds Tryd.pinned (OpenSpec.ofChange treeKeepsWrong)

/-- 'wapentakelaw03.TreePaths': WHATEVER THE INPUT: true; the input reads as it did. -/
def treePathsSpec : ChangeSpec := { name := "treePaths", fn := fun _ => fun
  | [d1, d2, d3] => { results := [.lit (.bool true)], args := [d1, d2, d3] }
  | _ => none }
def treePathsRow : OpenClaim := { program := "ytmkkfccnacodoaadoor", sum := "3d9d683a6d19c0b596deb072070a2df9867f2585d8a8d92118a1f0716b1b32e1", func := "wapentake/wapentakelaw03.TreePaths", spec := "treePaths", recurses := true, named := ["wapentake/sha.table"], apart := false, laid := [("wapentake/sha.table", laid_wapentake_sha_table)] }
def TreePathsSaid : Prop := treePathsRow.holds Tryd.pinned (OpenSpec.ofChange treePathsSpec)

/-- ITS FALSE NEIGHBOUR: 'it returns false'. Refute it at one input. -/
def treePathsWrong : ChangeSpec := { name := "treePaths", fn := fun _ => fun
  | [d1, d2, d3] => { results := [.lit (.bool false)], args := [d1, d2, d3] }
  | _ => none }
def TreePathsWrongFalsely : Prop := treePathsRow.holds Tryd.pinned (OpenSpec.ofChange treePathsWrong)

/-- 'wapentakelaw04.OnceSigns': WHATEVER THE INPUT: true; the input reads as it did. -/
def onceSignsSpec : ChangeSpec := { name := "onceSigns", fn := fun _ => fun
  | [d1, d2, d3] => { results := [.lit (.bool true)], args := [d1, d2, d3] }
  | _ => none }
def onceSignsRow : OpenClaim := { program := "ytmkkfccnacodoaadoor", sum := "3d9d683a6d19c0b596deb072070a2df9867f2585d8a8d92118a1f0716b1b32e1", func := "wapentake/wapentakelaw04.OnceSigns", spec := "onceSigns", named := ["wapentake/sha.table"], apart := false, laid := [("wapentake/sha.table", laid_wapentake_sha_table)] }
def OnceSignsSaid : Prop := onceSignsRow.holds Tryd.pinned (OpenSpec.ofChange onceSignsSpec)

/-- ITS FALSE NEIGHBOUR: 'it returns false'. Refute it at one input. -/
def onceSignsWrong : ChangeSpec := { name := "onceSigns", fn := fun _ => fun
  | [d1, d2, d3] => { results := [.lit (.bool false)], args := [d1, d2, d3] }
  | _ => none }
def OnceSignsWrongFalsely : Prop := onceSignsRow.holds Tryd.pinned (OpenSpec.ofChange onceSignsWrong)

/-- 'wapentakelaw04.OnceKeeps': WHATEVER THE INPUT: true; the input reads as it did. -/
def onceKeepsSpec : ChangeSpec := { name := "onceKeeps", fn := fun _ => fun
  | [d1, d2, d3] => { results := [.lit (.bool true)], args := [d1, d2, d3] }
  | _ => none }
def onceKeepsRow : OpenClaim := { program := "ytmkkfccnacodoaadoor", sum := "3d9d683a6d19c0b596deb072070a2df9867f2585d8a8d92118a1f0716b1b32e1", func := "wapentake/wapentakelaw04.OnceKeeps", spec := "onceKeeps", named := ["wapentake/sha.table"], apart := false, laid := [("wapentake/sha.table", laid_wapentake_sha_table)] }
def OnceKeepsSaid : Prop := onceKeepsRow.holds Tryd.pinned (OpenSpec.ofChange onceKeepsSpec)

/-- ITS FALSE NEIGHBOUR: 'it returns false'. Refute it at one input. -/
def onceKeepsWrong : ChangeSpec := { name := "onceKeeps", fn := fun _ => fun
  | [d1, d2, d3] => { results := [.lit (.bool false)], args := [d1, d2, d3] }
  | _ => none }
def OnceKeepsWrongFalsely : Prop := onceKeepsRow.holds Tryd.pinned (OpenSpec.ofChange onceKeepsWrong)

/-- 'wapentakelaw04.OnceFits': WHATEVER THE INPUT: true; the input reads as it did. -/
def onceFitsSpec : ChangeSpec := { name := "onceFits", fn := fun _ => fun
  | [d1, d2, d3, d4] => { results := [.lit (.bool true)], args := [d1, d2, d3, d4] }
  | _ => none }
def onceFitsRow : OpenClaim := { program := "ytmkkfccnacodoaadoor", sum := "3d9d683a6d19c0b596deb072070a2df9867f2585d8a8d92118a1f0716b1b32e1", func := "wapentake/wapentakelaw04.OnceFits", spec := "onceFits", named := ["wapentake/sha.table"], apart := false, laid := [("wapentake/sha.table", laid_wapentake_sha_table)] }
def OnceFitsSaid : Prop := onceFitsRow.holds Tryd.pinned (OpenSpec.ofChange onceFitsSpec)

/-- ITS FALSE NEIGHBOUR: 'it returns false'. Refute it at one input. -/
def onceFitsWrong : ChangeSpec := { name := "onceFits", fn := fun _ => fun
  | [d1, d2, d3, d4] => { results := [.lit (.bool false)], args := [d1, d2, d3, d4] }
  | _ => none }
def OnceFitsWrongFalsely : Prop := onceFitsRow.holds Tryd.pinned (OpenSpec.ofChange onceFitsWrong)

/- THE SECOND FORM. 'bulk': how many values and letters a reading holds, each counted each time it is reached (what is shared counts as often as it is met; a slice's spare places count too). A statement '..UptoSaid' is the law's where the arguments, and the package variables that the reading takes, are together of bulk at most 1048576: NARROWER than '..Said'. Prove '..Said' where nothing that the law and all that it calls make is longer than what came in: it says more and counts as full. Else prove '..UptoSaid'. A law counts once. -/
mutual
def uptoBulk {H : Type} : DataW H → Nat
  | .lit (.string bytes) => bytes.length + 1
  | .lit _ => 1
  | .nil => 1
  | .ptr d => uptoBulk d + 1
  | .slice elems spare => uptoBulkAll elems + uptoBulkAll spare + 1
  | .agg parts => uptoBulkAll parts + 1
  | .iface _ d => uptoBulk d + 1
  | .map entries => uptoBulkEntries entries + 1
  | .held _ => 1
def uptoBulkAll {H : Type} : List (DataW H) → Nat
  | [] => 0
  | d :: r => uptoBulk d + uptoBulkAll r
def uptoBulkEntries {H : Type} : List (Lit × DataW H) → Nat
  | [] => 0
  | x :: r => uptoBulkEntry x + uptoBulkEntries r
def uptoBulkEntry {H : Type} : Lit × DataW H → Nat
  | (.string bytes, d) => bytes.length + uptoBulk d + 1
  | (_, d) => uptoBulk d + 1
 end
def uptoSmall : (H : Type) → List (DataW H) → Bool := fun _ ds => decide (uptoBulkAll ds ≤ 1048576)
def OpenSpec.upto (s : _root_.Go.ChangeSpec) : _root_.Go.OpenSpec := { _root_.Go.OpenSpec.ofChange s with cond := some uptoSmall }

/-- 'wapentakelaw03.TreeChecks', WHERE WHAT IT READS IS OF BULK AT MOST 1048576: true; the input reads as it did. -/
def treeChecksUptoRow : OpenClaim := { program := "ytmkkfccnacodoaadoor", sum := "3d9d683a6d19c0b596deb072070a2df9867f2585d8a8d92118a1f0716b1b32e1", func := "wapentake/wapentakelaw03.TreeChecks", spec := "treeChecks", recurses := true, named := ["wapentake/sha.table"], apart := false, laid := [("wapentake/sha.table", laid_wapentake_sha_table)], narrowed := true }
def TreeChecksUptoSaid : Prop := treeChecksUptoRow.holds Tryd.pinned (OpenSpec.upto treeChecksSpec)

/-- 'wapentakelaw03.TreeHalves', WHERE WHAT IT READS IS OF BULK AT MOST 1048576: true; the input reads as it did. -/
def treeHalvesUptoRow : OpenClaim := { program := "ytmkkfccnacodoaadoor", sum := "3d9d683a6d19c0b596deb072070a2df9867f2585d8a8d92118a1f0716b1b32e1", func := "wapentake/wapentakelaw03.TreeHalves", spec := "treeHalves", named := ["wapentake/sha.table"], apart := false, laid := [("wapentake/sha.table", laid_wapentake_sha_table)], narrowed := true }
def TreeHalvesUptoSaid : Prop := treeHalvesUptoRow.holds Tryd.pinned (OpenSpec.upto treeHalvesSpec)

/-- 'wapentakelaw03.TreeRoots', WHERE WHAT IT READS IS OF BULK AT MOST 1048576: true; the input reads as it did. -/
def treeRootsUptoRow : OpenClaim := { program := "ytmkkfccnacodoaadoor", sum := "3d9d683a6d19c0b596deb072070a2df9867f2585d8a8d92118a1f0716b1b32e1", func := "wapentake/wapentakelaw03.TreeRoots", spec := "treeRoots", recurses := true, named := ["wapentake/sha.table"], apart := false, laid := [("wapentake/sha.table", laid_wapentake_sha_table)], narrowed := true }
def TreeRootsUptoSaid : Prop := treeRootsUptoRow.holds Tryd.pinned (OpenSpec.upto treeRootsSpec)

/-- 'wapentakelaw03.TreeProves', WHERE WHAT IT READS IS OF BULK AT MOST 1048576: true; the input reads as it did. -/
def treeProvesUptoRow : OpenClaim := { program := "ytmkkfccnacodoaadoor", sum := "3d9d683a6d19c0b596deb072070a2df9867f2585d8a8d92118a1f0716b1b32e1", func := "wapentake/wapentakelaw03.TreeProves", spec := "treeProves", named := ["wapentake/sha.table"], apart := false, laid := [("wapentake/sha.table", laid_wapentake_sha_table)], narrowed := true }
def TreeProvesUptoSaid : Prop := treeProvesUptoRow.holds Tryd.pinned (OpenSpec.upto treeProvesSpec)

/-- 'wapentakelaw03.TreeKeeps', WHERE WHAT IT READS IS OF BULK AT MOST 1048576: true; the input reads as it did. -/
def treeKeepsUptoRow : OpenClaim := { program := "ytmkkfccnacodoaadoor", sum := "3d9d683a6d19c0b596deb072070a2df9867f2585d8a8d92118a1f0716b1b32e1", func := "wapentake/wapentakelaw03.TreeKeeps", spec := "treeKeeps", named := ["wapentake/sha.table"], apart := false, laid := [("wapentake/sha.table", laid_wapentake_sha_table)], narrowed := true }
def TreeKeepsUptoSaid : Prop := treeKeepsUptoRow.holds Tryd.pinned (OpenSpec.upto treeKeepsSpec)

/-- 'wapentakelaw03.TreePaths', WHERE WHAT IT READS IS OF BULK AT MOST 1048576: true; the input reads as it did. -/
def treePathsUptoRow : OpenClaim := { program := "ytmkkfccnacodoaadoor", sum := "3d9d683a6d19c0b596deb072070a2df9867f2585d8a8d92118a1f0716b1b32e1", func := "wapentake/wapentakelaw03.TreePaths", spec := "treePaths", recurses := true, named := ["wapentake/sha.table"], apart := false, laid := [("wapentake/sha.table", laid_wapentake_sha_table)], narrowed := true }
def TreePathsUptoSaid : Prop := treePathsUptoRow.holds Tryd.pinned (OpenSpec.upto treePathsSpec)

/-- 'wapentakelaw04.OnceSigns', WHERE WHAT IT READS IS OF BULK AT MOST 1048576: true; the input reads as it did. -/
def onceSignsUptoRow : OpenClaim := { program := "ytmkkfccnacodoaadoor", sum := "3d9d683a6d19c0b596deb072070a2df9867f2585d8a8d92118a1f0716b1b32e1", func := "wapentake/wapentakelaw04.OnceSigns", spec := "onceSigns", named := ["wapentake/sha.table"], apart := false, laid := [("wapentake/sha.table", laid_wapentake_sha_table)], narrowed := true }
def OnceSignsUptoSaid : Prop := onceSignsUptoRow.holds Tryd.pinned (OpenSpec.upto onceSignsSpec)

/-- 'wapentakelaw04.OnceKeeps', WHERE WHAT IT READS IS OF BULK AT MOST 1048576: true; the input reads as it did. -/
def onceKeepsUptoRow : OpenClaim := { program := "ytmkkfccnacodoaadoor", sum := "3d9d683a6d19c0b596deb072070a2df9867f2585d8a8d92118a1f0716b1b32e1", func := "wapentake/wapentakelaw04.OnceKeeps", spec := "onceKeeps", named := ["wapentake/sha.table"], apart := false, laid := [("wapentake/sha.table", laid_wapentake_sha_table)], narrowed := true }
def OnceKeepsUptoSaid : Prop := onceKeepsUptoRow.holds Tryd.pinned (OpenSpec.upto onceKeepsSpec)

/-- 'wapentakelaw04.OnceFits', WHERE WHAT IT READS IS OF BULK AT MOST 1048576: true; the input reads as it did. -/
def onceFitsUptoRow : OpenClaim := { program := "ytmkkfccnacodoaadoor", sum := "3d9d683a6d19c0b596deb072070a2df9867f2585d8a8d92118a1f0716b1b32e1", func := "wapentake/wapentakelaw04.OnceFits", spec := "onceFits", named := ["wapentake/sha.table"], apart := false, laid := [("wapentake/sha.table", laid_wapentake_sha_table)], narrowed := true }
def OnceFitsUptoSaid : Prop := onceFitsUptoRow.holds Tryd.pinned (OpenSpec.upto onceFitsSpec)

end Rows
end Go.Proofs.YtmkkfccnacodoaaDoor
