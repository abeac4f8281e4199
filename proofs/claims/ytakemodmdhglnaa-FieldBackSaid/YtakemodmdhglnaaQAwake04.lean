/- The chapter's examples hold. -/
import Derived.Test.YtakemodmdhglnaaPAx20
namespace Go.Proofs.Ytakemodmdhglnaa.Pure
open Go.RowKit Go.Proofs.Ytakemodmdhglnaa.PA Go.Proofs.YtakemodmdhglnaaW.PrintWords Go.Proofs.YtakemodmdhglnaaW.PrintLast

theorem awake04_at : magnetolaw04_awake.f 200 = some true := by decide +kernel
theorem awake04 {k : Nat} (hk : 200 ≤ k) : magnetolaw04_awake.f k = some true := at_rounds (magnetolaw04_awake.mono) hk awake04_at
end Go.Proofs.Ytakemodmdhglnaa.Pure
