/-
  CHAPTER 12: contracts of blocks: reading.
-/
import Derived.Test.YtmdjimkndeklmaaDoorS12d
namespace Go.Proofs.YtmdjimkndeklmaaDoor.WL
open Go
set_option maxHeartbeats 4000000
variable {G : Nat → Option AV}

end Go.Proofs.YtmdjimkndeklmaaDoor.WL
