/-
  NARROWER THAN 'FOR EVERY INPUT', by the rows' own cells (each row's printed sentence says how): ChainChecks: laid · ChainParts: laid · ChainGrows: laid · CertChecks: laid · CertMakes: laid · CertFew: laid · CertAgrees: laid · CertWrites: laid · ChainWrites: laid.
  DERIVED. THE GIVEN ROWS OF THIS SEAT. 9 by the template 'for every input the law returns true; each argument reads behind the call as it read before'; 0 by the template 'total and deterministic' (their statements: YtjlmpdbagmdbiaaDoorTotals.lean).
  GIVEN WITH THE SEED: the statements are not yours to turn. If you find one false, say at which input.
  Laid BY PROGRAM, IN A SANDBOX (cutbox-rows.mjs): the forced cells as the released guide's own fill.sh prints them over the translation 20c42472ac6be1c3… (all of the seat's roots in one cut). By AI agents, Wed Nov 11 2026. No macro, syntax, notation, axiom, sorry.
-/
import Derived.Test.YtjlmpdbagmdbiaaDoorChecked
import GoSem.Claim
import GoSem.ClaimJoined
import GoSem.ClaimMapViews
import Derived.JoinedTies
import Derived.KernelRfl
namespace Go.Proofs.YtjlmpdbagmdbiaaDoor
/- THE CELL 'sum', in the pinned program and in every row, IS THE sha256 OF THE DUMP (.gsa) THAT YtjlmpdbagmdbiaaDoorProg.lean LOADS. Nothing in Lean hashes anything: it is a label: what it is worth is what the hold of that sum in a sandbox is worth. -/
noncomputable def Tryd.pinned : Pinned := { name := "ytjlmpdbagmdbiaadoor", sum := "20c42472ac6be1c3756d5eeb11f1c461cec1b6223a3b6c6997359df51d663802", checked := Tryd.checked }
namespace Rows
def none {H : Type} : Left H := { results := [], args := [] }

/- WHAT THE LISTED PACKAGE-LEVEL VARIABLES READ AS WHEN THE CALL BEGINS. Each datum BY PROGRAM (the guide's laid-datum.mjs) off the statement by which the dump's own 'gosem.cut.vars' lays the variable. In a bare row this is a premise. The card (YtjlmpdbagmdbiaaDoorCards.lean) ties it to the program's text. -/
def laid_wapentake_sha_table {H : Type} : DataW H := .agg [.lit (.int .u32 1116352408), .lit (.int .u32 1899447441), .lit (.int .u32 3049323471), .lit (.int .u32 3921009573), .lit (.int .u32 961987163), .lit (.int .u32 1508970993), .lit (.int .u32 2453635748), .lit (.int .u32 2870763221), .lit (.int .u32 3624381080), .lit (.int .u32 310598401), .lit (.int .u32 607225278), .lit (.int .u32 1426881987), .lit (.int .u32 1925078388), .lit (.int .u32 2162078206), .lit (.int .u32 2614888103), .lit (.int .u32 3248222580), .lit (.int .u32 3835390401), .lit (.int .u32 4022224774), .lit (.int .u32 264347078), .lit (.int .u32 604807628), .lit (.int .u32 770255983), .lit (.int .u32 1249150122), .lit (.int .u32 1555081692), .lit (.int .u32 1996064986), .lit (.int .u32 2554220882), .lit (.int .u32 2821834349), .lit (.int .u32 2952996808), .lit (.int .u32 3210313671), .lit (.int .u32 3336571891), .lit (.int .u32 3584528711), .lit (.int .u32 113926993), .lit (.int .u32 338241895), .lit (.int .u32 666307205), .lit (.int .u32 773529912), .lit (.int .u32 1294757372), .lit (.int .u32 1396182291), .lit (.int .u32 1695183700), .lit (.int .u32 1986661051), .lit (.int .u32 2177026350), .lit (.int .u32 2456956037), .lit (.int .u32 2730485921), .lit (.int .u32 2820302411), .lit (.int .u32 3259730800), .lit (.int .u32 3345764771), .lit (.int .u32 3516065817), .lit (.int .u32 3600352804), .lit (.int .u32 4094571909), .lit (.int .u32 275423344), .lit (.int .u32 430227734), .lit (.int .u32 506948616), .lit (.int .u32 659060556), .lit (.int .u32 883997877), .lit (.int .u32 958139571), .lit (.int .u32 1322822218), .lit (.int .u32 1537002063), .lit (.int .u32 1747873779), .lit (.int .u32 1955562222), .lit (.int .u32 2024104815), .lit (.int .u32 2227730452), .lit (.int .u32 2361852424), .lit (.int .u32 2428436474), .lit (.int .u32 2756734187), .lit (.int .u32 3204031479), .lit (.int .u32 3329325298)]

/-- 'wapentakelaw15.ChainChecks': WHATEVER THE INPUT: true; the input reads as it did. -/
def chainChecksSpec : ChangeSpec := { name := "chainChecks", fn := fun _ => fun
  | [d1, d2, d3] => { results := [.lit (.bool true)], args := [d1, d2, d3] }
  | _ => none }
def chainChecksRow : OpenClaim := { program := "ytjlmpdbagmdbiaadoor", sum := "20c42472ac6be1c3756d5eeb11f1c461cec1b6223a3b6c6997359df51d663802", func := "wapentake/wapentakelaw15.ChainChecks", spec := "chainChecks", unfollowed := true, recurses := true, named := ["wapentake/sha.table"], apart := false, laid := [("wapentake/sha.table", laid_wapentake_sha_table)] }
def ChainChecksSaid : Prop := chainChecksRow.holds Tryd.pinned (OpenSpec.ofChange chainChecksSpec)

/-- ITS FALSE NEIGHBOUR: 'it returns false'. Refute it at one input. -/
def chainChecksWrong : ChangeSpec := { name := "chainChecks", fn := fun _ => fun
  | [d1, d2, d3] => { results := [.lit (.bool false)], args := [d1, d2, d3] }
  | _ => none }
def ChainChecksWrongFalsely : Prop := chainChecksRow.holds Tryd.pinned (OpenSpec.ofChange chainChecksWrong)

/-- 'wapentakelaw15.ChainParts': WHATEVER THE INPUT: true; the input reads as it did. -/
def chainPartsSpec : ChangeSpec := { name := "chainParts", fn := fun _ => fun
  | [d1, d2, d3] => { results := [.lit (.bool true)], args := [d1, d2, d3] }
  | _ => none }
def chainPartsRow : OpenClaim := { program := "ytjlmpdbagmdbiaadoor", sum := "20c42472ac6be1c3756d5eeb11f1c461cec1b6223a3b6c6997359df51d663802", func := "wapentake/wapentakelaw15.ChainParts", spec := "chainParts", unfollowed := true, recurses := true, named := ["wapentake/sha.table"], apart := false, laid := [("wapentake/sha.table", laid_wapentake_sha_table)] }
def ChainPartsSaid : Prop := chainPartsRow.holds Tryd.pinned (OpenSpec.ofChange chainPartsSpec)

/-- ITS FALSE NEIGHBOUR: 'it returns false'. Refute it at one input. -/
def chainPartsWrong : ChangeSpec := { name := "chainParts", fn := fun _ => fun
  | [d1, d2, d3] => { results := [.lit (.bool false)], args := [d1, d2, d3] }
  | _ => none }
def ChainPartsWrongFalsely : Prop := chainPartsRow.holds Tryd.pinned (OpenSpec.ofChange chainPartsWrong)

/-- 'wapentakelaw15.ChainGrows': WHATEVER THE INPUT: true; the input reads as it did. -/
def chainGrowsSpec : ChangeSpec := { name := "chainGrows", fn := fun _ => fun
  | [d1, d2, d3] => { results := [.lit (.bool true)], args := [d1, d2, d3] }
  | _ => none }
def chainGrowsRow : OpenClaim := { program := "ytjlmpdbagmdbiaadoor", sum := "20c42472ac6be1c3756d5eeb11f1c461cec1b6223a3b6c6997359df51d663802", func := "wapentake/wapentakelaw15.ChainGrows", spec := "chainGrows", unfollowed := true, recurses := true, named := ["wapentake/sha.table"], apart := false, laid := [("wapentake/sha.table", laid_wapentake_sha_table)] }
def ChainGrowsSaid : Prop := chainGrowsRow.holds Tryd.pinned (OpenSpec.ofChange chainGrowsSpec)

/-- ITS FALSE NEIGHBOUR: 'it returns false'. Refute it at one input. -/
def chainGrowsWrong : ChangeSpec := { name := "chainGrows", fn := fun _ => fun
  | [d1, d2, d3] => { results := [.lit (.bool false)], args := [d1, d2, d3] }
  | _ => none }
def ChainGrowsWrongFalsely : Prop := chainGrowsRow.holds Tryd.pinned (OpenSpec.ofChange chainGrowsWrong)

/-- 'wapentakelaw14.CertChecks': WHATEVER THE INPUT: true; the input reads as it did. -/
def certChecksSpec : ChangeSpec := { name := "certChecks", fn := fun _ => fun
  | [d1, d2, d3] => { results := [.lit (.bool true)], args := [d1, d2, d3] }
  | _ => none }
def certChecksRow : OpenClaim := { program := "ytjlmpdbagmdbiaadoor", sum := "20c42472ac6be1c3756d5eeb11f1c461cec1b6223a3b6c6997359df51d663802", func := "wapentake/wapentakelaw14.CertChecks", spec := "certChecks", unfollowed := true, recurses := true, named := ["wapentake/sha.table"], apart := false, laid := [("wapentake/sha.table", laid_wapentake_sha_table)] }
def CertChecksSaid : Prop := certChecksRow.holds Tryd.pinned (OpenSpec.ofChange certChecksSpec)

/-- ITS FALSE NEIGHBOUR: 'it returns false'. Refute it at one input. -/
def certChecksWrong : ChangeSpec := { name := "certChecks", fn := fun _ => fun
  | [d1, d2, d3] => { results := [.lit (.bool false)], args := [d1, d2, d3] }
  | _ => none }
def CertChecksWrongFalsely : Prop := certChecksRow.holds Tryd.pinned (OpenSpec.ofChange certChecksWrong)

/-- 'wapentakelaw14.CertMakes': WHATEVER THE INPUT: true; the input reads as it did. -/
def certMakesSpec : ChangeSpec := { name := "certMakes", fn := fun _ => fun
  | [d1, d2, d3] => { results := [.lit (.bool true)], args := [d1, d2, d3] }
  | _ => none }
def certMakesRow : OpenClaim := { program := "ytjlmpdbagmdbiaadoor", sum := "20c42472ac6be1c3756d5eeb11f1c461cec1b6223a3b6c6997359df51d663802", func := "wapentake/wapentakelaw14.CertMakes", spec := "certMakes", unfollowed := true, recurses := true, named := ["wapentake/sha.table"], apart := false, laid := [("wapentake/sha.table", laid_wapentake_sha_table)] }
def CertMakesSaid : Prop := certMakesRow.holds Tryd.pinned (OpenSpec.ofChange certMakesSpec)

/-- ITS FALSE NEIGHBOUR: 'it returns false'. Refute it at one input. -/
def certMakesWrong : ChangeSpec := { name := "certMakes", fn := fun _ => fun
  | [d1, d2, d3] => { results := [.lit (.bool false)], args := [d1, d2, d3] }
  | _ => none }
def CertMakesWrongFalsely : Prop := certMakesRow.holds Tryd.pinned (OpenSpec.ofChange certMakesWrong)

/-- 'wapentakelaw14.CertFew': WHATEVER THE INPUT: true; the input reads as it did. -/
def certFewSpec : ChangeSpec := { name := "certFew", fn := fun _ => fun
  | [d1, d2, d3, d4] => { results := [.lit (.bool true)], args := [d1, d2, d3, d4] }
  | _ => none }
def certFewRow : OpenClaim := { program := "ytjlmpdbagmdbiaadoor", sum := "20c42472ac6be1c3756d5eeb11f1c461cec1b6223a3b6c6997359df51d663802", func := "wapentake/wapentakelaw14.CertFew", spec := "certFew", unfollowed := true, recurses := true, named := ["wapentake/sha.table"], apart := false, laid := [("wapentake/sha.table", laid_wapentake_sha_table)] }
def CertFewSaid : Prop := certFewRow.holds Tryd.pinned (OpenSpec.ofChange certFewSpec)

/-- ITS FALSE NEIGHBOUR: 'it returns false'. Refute it at one input. -/
def certFewWrong : ChangeSpec := { name := "certFew", fn := fun _ => fun
  | [d1, d2, d3, d4] => { results := [.lit (.bool false)], args := [d1, d2, d3, d4] }
  | _ => none }
def CertFewWrongFalsely : Prop := certFewRow.holds Tryd.pinned (OpenSpec.ofChange certFewWrong)

/-- 'wapentakelaw14.CertAgrees': WHATEVER THE INPUT: true; the input reads as it did. -/
def certAgreesSpec : ChangeSpec := { name := "certAgrees", fn := fun _ => fun
  | [d1, d2, d3, d4, d5] => { results := [.lit (.bool true)], args := [d1, d2, d3, d4, d5] }
  | _ => none }
def certAgreesRow : OpenClaim := { program := "ytjlmpdbagmdbiaadoor", sum := "20c42472ac6be1c3756d5eeb11f1c461cec1b6223a3b6c6997359df51d663802", func := "wapentake/wapentakelaw14.CertAgrees", spec := "certAgrees", unfollowed := true, recurses := true, named := ["wapentake/sha.table"], apart := false, laid := [("wapentake/sha.table", laid_wapentake_sha_table)] }
def CertAgreesSaid : Prop := certAgreesRow.holds Tryd.pinned (OpenSpec.ofChange certAgreesSpec)

/-- ITS FALSE NEIGHBOUR: 'it returns false'. Refute it at one input. -/
def certAgreesWrong : ChangeSpec := { name := "certAgrees", fn := fun _ => fun
  | [d1, d2, d3, d4, d5] => { results := [.lit (.bool false)], args := [d1, d2, d3, d4, d5] }
  | _ => none }
def CertAgreesWrongFalsely : Prop := certAgreesRow.holds Tryd.pinned (OpenSpec.ofChange certAgreesWrong)

/-- 'wapentakelaw14.CertWrites': WHATEVER THE INPUT: true; the input reads as it did. -/
def certWritesSpec : ChangeSpec := { name := "certWrites", fn := fun _ => fun
  | [d1, d2, d3, d4] => { results := [.lit (.bool true)], args := [d1, d2, d3, d4] }
  | _ => none }
def certWritesRow : OpenClaim := { program := "ytjlmpdbagmdbiaadoor", sum := "20c42472ac6be1c3756d5eeb11f1c461cec1b6223a3b6c6997359df51d663802", func := "wapentake/wapentakelaw14.CertWrites", spec := "certWrites", unfollowed := true, recurses := true, named := ["wapentake/sha.table"], apart := false, laid := [("wapentake/sha.table", laid_wapentake_sha_table)] }
def CertWritesSaid : Prop := certWritesRow.holds Tryd.pinned (OpenSpec.ofChange certWritesSpec)

/-- ITS FALSE NEIGHBOUR: 'it returns false'. Refute it at one input. -/
def certWritesWrong : ChangeSpec := { name := "certWrites", fn := fun _ => fun
  | [d1, d2, d3, d4] => { results := [.lit (.bool false)], args := [d1, d2, d3, d4] }
  | _ => none }
def CertWritesWrongFalsely : Prop := certWritesRow.holds Tryd.pinned (OpenSpec.ofChange certWritesWrong)

/-- 'wapentakelaw15.ChainWrites': WHATEVER THE INPUT: true; the input reads as it did. -/
def chainWritesSpec : ChangeSpec := { name := "chainWrites", fn := fun _ => fun
  | [d1, d2, d3] => { results := [.lit (.bool true)], args := [d1, d2, d3] }
  | _ => none }
def chainWritesRow : OpenClaim := { program := "ytjlmpdbagmdbiaadoor", sum := "20c42472ac6be1c3756d5eeb11f1c461cec1b6223a3b6c6997359df51d663802", func := "wapentake/wapentakelaw15.ChainWrites", spec := "chainWrites", unfollowed := true, recurses := true, named := ["wapentake/sha.table"], apart := false, laid := [("wapentake/sha.table", laid_wapentake_sha_table)] }
def ChainWritesSaid : Prop := chainWritesRow.holds Tryd.pinned (OpenSpec.ofChange chainWritesSpec)

/-- ITS FALSE NEIGHBOUR: 'it returns false'. Refute it at one input. -/
def chainWritesWrong : ChangeSpec := { name := "chainWrites", fn := fun _ => fun
  | [d1, d2, d3] => { results := [.lit (.bool false)], args := [d1, d2, d3] }
  | _ => none }
def ChainWritesWrongFalsely : Prop := chainWritesRow.holds Tryd.pinned (OpenSpec.ofChange chainWritesWrong)

/- THE SECOND FORM. 'bulk': how many values and letters a reading holds, each counted each time it is reached (what is shared counts as often as it is met; a slice's spare places count too). A statement '..UptoSaid' is the law's where the arguments, and the package variables that the reading takes, are together of bulk at most 1048576: NARROWER than '..Said'. Prove '..Said' where nothing that the law and all that it calls make is longer than what came in: it says more and counts as full. Else prove '..UptoSaid'. A law counts once. -/
mutual
def uptoBulk {H : Type} : DataW H → Nat
  | .lit (.string bytes) => bytes.length + 1
  | .lit _ => 1
  | .nil => 1
  | .ptr d => uptoBulk d + 1
  | .slice elems spare => uptoBulkAll elems + uptoBulkAll spare + 1
  | .agg parts => uptoBulkAll parts + 1
  | .iface _ d => uptoBulk d + 1
  | .map entries => uptoBulkEntries entries + 1
  | .held _ => 1
def uptoBulkAll {H : Type} : List (DataW H) → Nat
  | [] => 0
  | d :: r => uptoBulk d + uptoBulkAll r
def uptoBulkEntries {H : Type} : List (Lit × DataW H) → Nat
  | [] => 0
  | x :: r => uptoBulkEntry x + uptoBulkEntries r
def uptoBulkEntry {H : Type} : Lit × DataW H → Nat
  | (.string bytes, d) => bytes.length + uptoBulk d + 1
  | (_, d) => uptoBulk d + 1
 end
def uptoSmall : (H : Type) → List (DataW H) → Bool := fun _ ds => decide (uptoBulkAll ds ≤ 1048576)
def OpenSpec.upto (s : _root_.Go.ChangeSpec) : _root_.Go.OpenSpec := { _root_.Go.OpenSpec.ofChange s with cond := some uptoSmall }

/-- 'wapentakelaw15.ChainChecks', WHERE WHAT IT READS IS OF BULK AT MOST 1048576: true; the input reads as it did. -/
def chainChecksUptoRow : OpenClaim := { program := "ytjlmpdbagmdbiaadoor", sum := "20c42472ac6be1c3756d5eeb11f1c461cec1b6223a3b6c6997359df51d663802", func := "wapentake/wapentakelaw15.ChainChecks", spec := "chainChecks", unfollowed := true, recurses := true, named := ["wapentake/sha.table"], apart := false, laid := [("wapentake/sha.table", laid_wapentake_sha_table)], narrowed := true }
def ChainChecksUptoSaid : Prop := chainChecksUptoRow.holds Tryd.pinned (OpenSpec.upto chainChecksSpec)

/-- 'wapentakelaw15.ChainParts', WHERE WHAT IT READS IS OF BULK AT MOST 1048576: true; the input reads as it did. -/
def chainPartsUptoRow : OpenClaim := { program := "ytjlmpdbagmdbiaadoor", sum := "20c42472ac6be1c3756d5eeb11f1c461cec1b6223a3b6c6997359df51d663802", func := "wapentake/wapentakelaw15.ChainParts", spec := "chainParts", unfollowed := true, recurses := true, named := ["wapentake/sha.table"], apart := false, laid := [("wapentake/sha.table", laid_wapentake_sha_table)], narrowed := true }
def ChainPartsUptoSaid : Prop := chainPartsUptoRow.holds Tryd.pinned (OpenSpec.upto chainPartsSpec)

/-- 'wapentakelaw15.ChainGrows', WHERE WHAT IT READS IS OF BULK AT MOST 1048576: true; the input reads as it did. -/
def chainGrowsUptoRow : OpenClaim := { program := "ytjlmpdbagmdbiaadoor", sum := "20c42472ac6be1c3756d5eeb11f1c461cec1b6223a3b6c6997359df51d663802", func := "wapentake/wapentakelaw15.ChainGrows", spec := "chainGrows", unfollowed := true, recurses := true, named := ["wapentake/sha.table"], apart := false, laid := [("wapentake/sha.table", laid_wapentake_sha_table)], narrowed := true }
def ChainGrowsUptoSaid : Prop := chainGrowsUptoRow.holds Tryd.pinned (OpenSpec.upto chainGrowsSpec)

/-- 'wapentakelaw14.CertChecks', WHERE WHAT IT READS IS OF BULK AT MOST 1048576: true; the input reads as it did. -/
def certChecksUptoRow : OpenClaim := { program := "ytjlmpdbagmdbiaadoor", sum := "20c42472ac6be1c3756d5eeb11f1c461cec1b6223a3b6c6997359df51d663802", func := "wapentake/wapentakelaw14.CertChecks", spec := "certChecks", unfollowed := true, recurses := true, named := ["wapentake/sha.table"], apart := false, laid := [("wapentake/sha.table", laid_wapentake_sha_table)], narrowed := true }
def CertChecksUptoSaid : Prop := certChecksUptoRow.holds Tryd.pinned (OpenSpec.upto certChecksSpec)

/-- 'wapentakelaw14.CertMakes', WHERE WHAT IT READS IS OF BULK AT MOST 1048576: true; the input reads as it did. -/
def certMakesUptoRow : OpenClaim := { program := "ytjlmpdbagmdbiaadoor", sum := "20c42472ac6be1c3756d5eeb11f1c461cec1b6223a3b6c6997359df51d663802", func := "wapentake/wapentakelaw14.CertMakes", spec := "certMakes", unfollowed := true, recurses := true, named := ["wapentake/sha.table"], apart := false, laid := [("wapentake/sha.table", laid_wapentake_sha_table)], narrowed := true }
def CertMakesUptoSaid : Prop := certMakesUptoRow.holds Tryd.pinned (OpenSpec.upto certMakesSpec)

/-- 'wapentakelaw14.CertFew', WHERE WHAT IT READS IS OF BULK AT MOST 1048576: true; the input reads as it did. -/
def certFewUptoRow : OpenClaim := { program := "ytjlmpdbagmdbiaadoor", sum := "20c42472ac6be1c3756d5eeb11f1c461cec1b6223a3b6c6997359df51d663802", func := "wapentake/wapentakelaw14.CertFew", spec := "certFew", unfollowed := true, recurses := true, named := ["wapentake/sha.table"], apart := false, laid := [("wapentake/sha.table", laid_wapentake_sha_table)], narrowed := true }
def CertFewUptoSaid : Prop := certFewUptoRow.holds Tryd.pinned (OpenSpec.upto certFewSpec)

/-- 'wapentakelaw14.CertAgrees', WHERE WHAT IT READS IS OF BULK AT MOST 1048576: true; the input reads as it did. -/
def certAgreesUptoRow : OpenClaim := { program := "ytjlmpdbagmdbiaadoor", sum := "20c42472ac6be1c3756d5eeb11f1c461cec1b6223a3b6c6997359df51d663802", func := "wapentake/wapentakelaw14.CertAgrees", spec := "certAgrees", unfollowed := true, recurses := true, named := ["wapentake/sha.table"], apart := false, laid := [("wapentake/sha.table", laid_wapentake_sha_table)], narrowed := true }
def CertAgreesUptoSaid : Prop := certAgreesUptoRow.holds Tryd.pinned (OpenSpec.upto certAgreesSpec)

/-- 'wapentakelaw14.CertWrites', WHERE WHAT IT READS IS OF BULK AT MOST 1048576: true; the input reads as it did. -/
def certWritesUptoRow : OpenClaim := { program := "ytjlmpdbagmdbiaadoor", sum := "20c42472ac6be1c3756d5eeb11f1c461cec1b6223a3b6c6997359df51d663802", func := "wapentake/wapentakelaw14.CertWrites", spec := "certWrites", unfollowed := true, recurses := true, named := ["wapentake/sha.table"], apart := false, laid := [("wapentake/sha.table", laid_wapentake_sha_table)], narrowed := true }
def CertWritesUptoSaid : Prop := certWritesUptoRow.holds Tryd.pinned (OpenSpec.upto certWritesSpec)

/-- 'wapentakelaw15.ChainWrites', WHERE WHAT IT READS IS OF BULK AT MOST 1048576: true; the input reads as it did. -/
def chainWritesUptoRow : OpenClaim := { program := "ytjlmpdbagmdbiaadoor", sum := "20c42472ac6be1c3756d5eeb11f1c461cec1b6223a3b6c6997359df51d663802", func := "wapentake/wapentakelaw15.ChainWrites", spec := "chainWrites", unfollowed := true, recurses := true, named := ["wapentake/sha.table"], apart := false, laid := [("wapentake/sha.table", laid_wapentake_sha_table)], narrowed := true }
def ChainWritesUptoSaid : Prop := chainWritesUptoRow.holds Tryd.pinned (OpenSpec.upto chainWritesSpec)

end Rows
end Go.Proofs.YtjlmpdbagmdbiaaDoor
