/- The chapter's examples hold. -/
import Derived.Test.YtipflkbpjnacnaaPAx4
namespace Go.Proofs.Ytipflkbpjnacnaa.Pure
open Go.RowKit Go.Proofs.Ytipflkbpjnacnaa.PA Go.Proofs.YtipflkbpjnacnaaW.PrintWords Go.Proofs.YtipflkbpjnacnaaW.PrintLast Go.Proofs.YtipflkbpjnacnaaW.PrintMore
theorem awake02 : magnetolaw02_awake.f = some true := by decide +kernel
end Go.Proofs.Ytipflkbpjnacnaa.Pure
