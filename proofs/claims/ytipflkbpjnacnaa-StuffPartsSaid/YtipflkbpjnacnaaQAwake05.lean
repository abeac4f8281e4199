/- The chapter's examples hold, with enough rounds. -/
import Derived.Test.YtipflkbpjnacnaaPAx16
namespace Go.Proofs.Ytipflkbpjnacnaa.Pure
open Go.RowKit Go.Proofs.Ytipflkbpjnacnaa.PA Go.Proofs.YtipflkbpjnacnaaW.PrintWords Go.Proofs.YtipflkbpjnacnaaW.PrintLast Go.Proofs.YtipflkbpjnacnaaW.PrintMore
theorem awake05_20 : magnetolaw05_awake.f 20 = some true := by decide +kernel
theorem awake05 {k : Nat} (hk : 20 ≤ k) : magnetolaw05_awake.f k = some true := at_rounds (magnetolaw05_awake.mono) hk awake05_20
end Go.Proofs.Ytipflkbpjnacnaa.Pure
