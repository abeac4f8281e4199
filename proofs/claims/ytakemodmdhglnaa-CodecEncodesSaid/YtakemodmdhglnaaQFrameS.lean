/- A frame, in plain Lean. -/
import Derived.RowKit
namespace Go.Proofs.Ytakemodmdhglnaa.Pure
open Go.RowKit

/-- A frame. -/
structure Fr where
  id : Int
  ext : Bool
  rtr : Bool
  len : Int
  b0 : Int
  b1 : Int
  b2 : Int
  b3 : Int
  b4 : Int
  b5 : Int
  b6 : Int
  b7 : Int
/-- Its bytes. -/
def Fr.d (F : Fr) : List Int := [F.b0, F.b1, F.b2, F.b3, F.b4, F.b5, F.b6, F.b7]
theorem Fr.d_length (F : Fr) : F.d.length = 8 := rfl
end Go.Proofs.Ytakemodmdhglnaa.Pure
