/- The pure statement of magneto/magnetolaw06.CodecEncodes. Conditions: none. -/
import Derived.Test.YtakemodmdhglnaaPAx39
import Derived.Test.YtakemodmdhglnaaQRow
namespace Go.Proofs.Ytakemodmdhglnaa.PA
open Go.RowKit Go.Proofs.YtakemodmdhglnaaW.PrintWords Go.Proofs.YtakemodmdhglnaaW.PrintLast
def magnetolaw06_CodecEncodes.Pure : Prop := ∀ (a0_0 : Int) (a0_1 : Bool) (a0_2 : Bool) (a0_3 : Int) (a0_4 : Int) (a0_5 : Int) (a0_6 : Int) (a0_7 : Int) (a0_8 : Int) (a0_9 : Int) (a0_10 : Int) (a0_11 : Int) (a1 : Bool) (a2 : Int), (Lit.int .i64 a0_0).wf = true → (Lit.int .i64 a0_3).wf = true → (Lit.int .u8 a0_4).wf = true → (Lit.int .u8 a0_5).wf = true → (Lit.int .u8 a0_6).wf = true → (Lit.int .u8 a0_7).wf = true → (Lit.int .u8 a0_8).wf = true → (Lit.int .u8 a0_9).wf = true → (Lit.int .u8 a0_10).wf = true → (Lit.int .u8 a0_11).wf = true → (Lit.int .i64 a2).wf = true → ∃ k, magnetolaw06_CodecEncodes.f k a0_0 a0_1 a0_2 a0_3 a0_4 a0_5 a0_6 a0_7 a0_8 a0_9 a0_10 a0_11 a1 a2 = some true
end Go.Proofs.Ytakemodmdhglnaa.PA
