/- The pure statement of magneto/magnetolaw02.Crc15Xors. Conditions: none. -/
import Derived.Test.YtclmogjmmcjppaaPAx13
import Derived.Test.YtclmogjmmcjppaaQRow
namespace Go.Proofs.Ytclmogjmmcjppaa.PA
open Go.RowKit Go.Proofs.YtclmogjmmcjppaaW.PrintWords Go.Proofs.YtclmogjmmcjppaaW.PrintLast
def magnetolaw02_Crc15Xors.Pure : Prop := ∀ (l0_0 : List Int) (l0_1 : List Int), l0_0.length ≤ maxLen → (∀ x ∈ l0_0, (Lit.int .i64 x).wf = true) → l0_1.length ≤ maxLen → (∀ x ∈ l0_1, (Lit.int .i64 x).wf = true) → ∃ k, magnetolaw02_Crc15Xors.f k l0_0 l0_1 = some true
end Go.Proofs.Ytclmogjmmcjppaa.PA
