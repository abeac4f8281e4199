/- The chapter's examples hold. -/
import Derived.Test.YtclmogjmmcjppaaPAx12
namespace Go.Proofs.Ytclmogjmmcjppaa.Pure
open Go.RowKit Go.Proofs.Ytclmogjmmcjppaa.PA Go.Proofs.YtclmogjmmcjppaaW.PrintWords Go.Proofs.YtclmogjmmcjppaaW.PrintLast Go.Proofs.YtclmogjmmcjppaaW.PrintMore
theorem awake02 : magnetolaw02_awake.f = some true := by decide +kernel
end Go.Proofs.Ytclmogjmmcjppaa.Pure
