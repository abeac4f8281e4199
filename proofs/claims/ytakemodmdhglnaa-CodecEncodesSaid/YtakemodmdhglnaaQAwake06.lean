/- The chapter's examples hold. -/
import Derived.Test.YtakemodmdhglnaaPAx36
namespace Go.Proofs.Ytakemodmdhglnaa.Pure
open Go.RowKit Go.Proofs.Ytakemodmdhglnaa.PA Go.Proofs.YtakemodmdhglnaaW.PrintWords Go.Proofs.YtakemodmdhglnaaW.PrintLast

theorem awake06_at : magnetolaw06_awake.f 200 = some true := by decide +kernel
theorem awake06 {k : Nat} (hk : 200 ≤ k) : magnetolaw06_awake.f k = some true := at_rounds (magnetolaw06_awake.mono) hk awake06_at
end Go.Proofs.Ytakemodmdhglnaa.Pure
