/- The pure statement of magneto/magnetolaw01.BitsParts. Conditions: none. -/
import Derived.Test.YtipflkbpjnacnaaPAx25
import Derived.Test.YtipflkbpjnacnaaQRow
namespace Go.Proofs.Ytipflkbpjnacnaa.PA
open Go.RowKit Go.Proofs.YtipflkbpjnacnaaW.PrintWords Go.Proofs.YtipflkbpjnacnaaW.PrintLast
def magnetolaw01_BitsParts.Pure : Prop := ∀ (l0_0 : List Int) (l0_1 : List Int), l0_0.length ≤ maxLen → (∀ x ∈ l0_0, (Lit.int .i64 x).wf = true) → l0_1.length ≤ maxLen → (∀ x ∈ l0_1, (Lit.int .i64 x).wf = true) → ∃ k, magnetolaw01_BitsParts.f k l0_0 l0_1 = some true
end Go.Proofs.Ytipflkbpjnacnaa.PA
