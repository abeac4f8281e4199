/- The pure statement of magneto/magnetolaw02.Crc15Turns. Conditions: none. -/
import Derived.Test.YtipflkbpjnacnaaPAx22
import Derived.Test.YtipflkbpjnacnaaQRow
namespace Go.Proofs.Ytipflkbpjnacnaa.PA
open Go.RowKit Go.Proofs.YtipflkbpjnacnaaW.PrintWords Go.Proofs.YtipflkbpjnacnaaW.PrintLast
def magnetolaw02_Crc15Turns.Pure : Prop := ∀ (l0 : List Int) (a1 : Int) (a2_0 : Bool) (a2_1 : Bool) (a2_2 : Bool) (a2_3 : Bool) (a2_4 : Bool) (a2_5 : Bool) (a2_6 : Bool) (a2_7 : Bool) (a2_8 : Bool) (a2_9 : Bool) (a2_10 : Bool) (a2_11 : Bool) (a2_12 : Bool) (a2_13 : Bool) (a2_14 : Bool), l0.length ≤ maxLen → (∀ x ∈ l0, (Lit.int .i64 x).wf = true) → (Lit.int .i64 a1).wf = true → ∃ k, magnetolaw02_Crc15Turns.f k l0 a1 a2_0 a2_1 a2_2 a2_3 a2_4 a2_5 a2_6 a2_7 a2_8 a2_9 a2_10 a2_11 a2_12 a2_13 a2_14 = some true
end Go.Proofs.Ytipflkbpjnacnaa.PA
