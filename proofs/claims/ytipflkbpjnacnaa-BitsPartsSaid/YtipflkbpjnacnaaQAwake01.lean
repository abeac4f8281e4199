/- The chapter's examples hold, with enough rounds. -/
import Derived.Test.YtipflkbpjnacnaaPAx8
namespace Go.Proofs.Ytipflkbpjnacnaa.Pure
open Go.RowKit Go.Proofs.Ytipflkbpjnacnaa.PA Go.Proofs.YtipflkbpjnacnaaW.PrintWords Go.Proofs.YtipflkbpjnacnaaW.PrintLast Go.Proofs.YtipflkbpjnacnaaW.PrintMore
theorem awake01_20 : magnetolaw01_awake.f 20 = some true := by decide +kernel
theorem awake01 {k : Nat} (hk : 20 ≤ k) : magnetolaw01_awake.f k = some true := at_rounds (magnetolaw01_awake.mono) hk awake01_20
end Go.Proofs.Ytipflkbpjnacnaa.Pure
