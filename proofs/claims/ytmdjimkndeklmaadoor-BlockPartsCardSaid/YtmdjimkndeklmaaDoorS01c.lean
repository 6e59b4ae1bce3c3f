/-
  CHAPTER 01: contracts of the reader: texts.
-/
import Derived.Test.YtmdjimkndeklmaaDoorS01b
namespace Go.Proofs.YtmdjimkndeklmaaDoor.WL
open Go
set_option maxHeartbeats 4000000

def rdT (g : Nat) (r : Rd) : List (Nat × Loc) := [(1000, .var 0 (.node [.row 1092000 1 g r.pre.length r.s.length, .v (.bool r.bad)])), (1092000, .rows g 1 (B (r.pre ++ r.s)))]

end Go.Proofs.YtmdjimkndeklmaaDoor.WL
