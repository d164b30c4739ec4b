/- The shelf, under a second name. -/
import Derived.Test.YtlecpjfggoehdaaGreatDoorShelf
namespace Go.Proofs
end Go.Proofs
