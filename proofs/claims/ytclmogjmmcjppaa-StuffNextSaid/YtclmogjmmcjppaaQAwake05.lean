/- The chapter's examples hold, with enough rounds. -/
import Derived.Test.YtclmogjmmcjppaaPAx21
namespace Go.Proofs.Ytclmogjmmcjppaa.Pure
open Go.RowKit Go.Proofs.Ytclmogjmmcjppaa.PA Go.Proofs.YtclmogjmmcjppaaW.PrintWords Go.Proofs.YtclmogjmmcjppaaW.PrintLast Go.Proofs.YtclmogjmmcjppaaW.PrintMore
theorem awake05_20 : magnetolaw05_awake.f 20 = some true := by decide +kernel
theorem awake05 {k : Nat} (hk : 20 ≤ k) : magnetolaw05_awake.f k = some true := at_rounds (magnetolaw05_awake.mono) hk awake05_20
end Go.Proofs.Ytclmogjmmcjppaa.Pure
