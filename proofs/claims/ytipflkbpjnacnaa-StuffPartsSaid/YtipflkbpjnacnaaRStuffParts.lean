/- The pure statement of magneto/magnetolaw05.StuffParts. Conditions: none. -/
import Derived.Test.YtipflkbpjnacnaaPAx18
import Derived.Test.YtipflkbpjnacnaaQRow
namespace Go.Proofs.Ytipflkbpjnacnaa.PA
open Go.RowKit Go.Proofs.YtipflkbpjnacnaaW.PrintWords Go.Proofs.YtipflkbpjnacnaaW.PrintLast
def magnetolaw05_StuffParts.Pure : Prop := ∀ (l0_0 : List Int) (l0_1 : List Int) (a1 : Int), l0_0.length ≤ maxLen → (∀ x ∈ l0_0, (Lit.int .i64 x).wf = true) → l0_1.length ≤ maxLen → (∀ x ∈ l0_1, (Lit.int .i64 x).wf = true) → (Lit.int .i64 a1).wf = true → ∃ k, magnetolaw05_StuffParts.f k l0_0 l0_1 a1 = some true
end Go.Proofs.Ytipflkbpjnacnaa.PA
