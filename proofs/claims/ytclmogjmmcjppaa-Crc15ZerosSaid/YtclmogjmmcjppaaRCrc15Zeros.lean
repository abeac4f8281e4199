/- The pure statement of magneto/magnetolaw02.Crc15Zeros. Conditions: none. -/
import Derived.Test.YtclmogjmmcjppaaPAx17
import Derived.Test.YtclmogjmmcjppaaQRow
namespace Go.Proofs.Ytclmogjmmcjppaa.PA
open Go.RowKit Go.Proofs.YtclmogjmmcjppaaW.PrintWords Go.Proofs.YtclmogjmmcjppaaW.PrintLast
def magnetolaw02_Crc15Zeros.Pure : Prop := ∀ (l0 : List Int) (a1 : Int) (a2_0 : Int) (a2_1 : Int), l0.length ≤ maxLen → (∀ x ∈ l0, (Lit.int .i64 x).wf = true) → (Lit.int .i64 a1).wf = true → (Lit.int .i64 a2_0).wf = true → (Lit.int .i64 a2_1).wf = true → ∃ k, magnetolaw02_Crc15Zeros.f k l0 a1 a2_0 a2_1 = some true
end Go.Proofs.Ytclmogjmmcjppaa.PA
