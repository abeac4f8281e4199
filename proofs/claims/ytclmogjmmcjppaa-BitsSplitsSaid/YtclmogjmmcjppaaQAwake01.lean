/- The chapter's examples hold, with enough rounds. -/
import Derived.Test.YtclmogjmmcjppaaPAx3
namespace Go.Proofs.Ytclmogjmmcjppaa.Pure
open Go.RowKit Go.Proofs.Ytclmogjmmcjppaa.PA Go.Proofs.YtclmogjmmcjppaaW.PrintWords Go.Proofs.YtclmogjmmcjppaaW.PrintLast Go.Proofs.YtclmogjmmcjppaaW.PrintMore
theorem awake01_20 : magnetolaw01_awake.f 20 = some true := by decide +kernel
theorem awake01 {k : Nat} (hk : 20 ≤ k) : magnetolaw01_awake.f k = some true := at_rounds (magnetolaw01_awake.mono) hk awake01_20
end Go.Proofs.Ytclmogjmmcjppaa.Pure
