/-
  CHAPTER 09: contracts of the reference: reading replies.
-/
import Derived.Test.YtmdjimkndeklmaaDoorS09b
namespace Go.Proofs.YtmdjimkndeklmaaDoor.WL
open Go
set_option maxHeartbeats 4000000
variable {G : Nat → Option AV}

end Go.Proofs.YtmdjimkndeklmaaDoor.WL
