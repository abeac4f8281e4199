/- Functions of the program, in plain Lean, and their walks (printed; half the indent). Conditions: none. -/
-- PRINTED by print.py (a twelfth state) out of the translation. Not trusted: Lean checks it.
import Derived.Test.YtakemodmdhglnaaPAx0
namespace Go.Proofs.Ytakemodmdhglnaa.PA
open Go.RowKit Go.Proofs.YtakemodmdhglnaaW.PrintWords Go.Proofs.YtakemodmdhglnaaW.PrintLast Go.Proofs.YtakemodmdhglnaaW.PrintMore
attribute [local go_sem] zqbb zqaz zqbd zqbe zqax zqay zqba zqbc   -- for this text's walks alone
set_option linter.unusedVariables false
set_option linter.unusedSimpArgs false

theorem eqA22 (d : Nat) (w : World) (x0 y0 : Int) (x1 y1 : Int) (x2 y2 : Int) (x3 y3 : Int) (x4 y4 : Int) (x5 y5 : Int) (x6 y6 : Int) (x7 y7 : Int) :
  (Op.equalIn (d + 2) 22 (.agg #[.int .u8 x0, .int .u8 x1, .int .u8 x2, .int .u8 x3, .int .u8 x4, .int .u8 x5, .int .u8 x6, .int .u8 x7]) (.agg #[.int .u8 y0, .int .u8 y1, .int .u8 y2, .int .u8 y3, .int .u8 y4, .int .u8 y5, .int .u8 y6, .int .u8 y7])).run Try.prog w = .ok (x0 == y0 && (x1 == y1 && (x2 == y2 && (x3 == y3 && (x4 == y4 && (x5 == y5 && (x6 == y6 && (x7 == y7)))))))) w := by
 refine eqi_of Try.underlying22 (by kernel_rfl) (c := 1) (by kernel_rfl) ?_
 refine eqi_cons (by go_simp; rfl) (by go_simp; rfl) (by go_simp) ?_
 refine eqi_cons (by go_simp; rfl) (by go_simp; rfl) (by go_simp) ?_
 refine eqi_cons (by go_simp; rfl) (by go_simp; rfl) (by go_simp) ?_
 refine eqi_cons (by go_simp; rfl) (by go_simp; rfl) (by go_simp) ?_
 refine eqi_cons (by go_simp; rfl) (by go_simp; rfl) (by go_simp) ?_
 refine eqi_cons (by go_simp; rfl) (by go_simp; rfl) (by go_simp) ?_
 refine eqi_cons (by go_simp; rfl) (by go_simp; rfl) (by go_simp) ?_
 exact eqi_last (by go_simp; rfl) (by go_simp; rfl) (by go_simp)
theorem eqA24 (d : Nat) (w : World) (x0 y0 : Int) (x1 y1 : Bool) (x2 y2 : Bool) (x3 y3 : Int) (x4 y4 : Int) (x5 y5 : Int) (x6 y6 : Int) (x7 y7 : Int) (x8 y8 : Int) (x9 y9 : Int) (x10 y10 : Int) (x11 y11 : Int) :
  (Op.equalIn (d + 3) 24 (.agg #[.int .i64 x0, .bool x1, .bool x2, .int .i64 x3, .int .u8 x4, .int .u8 x5, .int .u8 x6, .int .u8 x7, .int .u8 x8, .int .u8 x9, .int .u8 x10, .int .u8 x11]) (.agg #[.int .i64 y0, .bool y1, .bool y2, .int .i64 y3, .int .u8 y4, .int .u8 y5, .int .u8 y6, .int .u8 y7, .int .u8 y8, .int .u8 y9, .int .u8 y10, .int .u8 y11])).run Try.prog w = .ok (x0 == y0 && (x1 == y1 && (x2 == y2 && (x3 == y3 && ((x4 == y4 && (x5 == y5 && (x6 == y6 && (x7 == y7 && (x8 == y8 && (x9 == y9 && (x10 == y10 && (x11 == y11))))))))))))) w := by
 refine eqA_of Try.underlying24 (by kernel_rfl) ?_
 refine eqf_cons (by rfl) (by go_simp; rfl) (by go_simp; rfl) (by go_simp) ?_
 refine eqf_cons (by rfl) (by go_simp; rfl) (by go_simp; rfl) (by go_simp) ?_
 refine eqf_cons (by rfl) (by go_simp; rfl) (by go_simp; rfl) (by go_simp) ?_
 refine eqf_cons (by rfl) (by go_simp; rfl) (by go_simp; rfl) (by go_simp) ?_
 exact eqf_last (by rfl) (by go_simp) (by go_simp) (eqA22 (d + 0) w _ _ _ _ _ _ _ _ _ _ _ _ _ _ _ _)
end Go.Proofs.Ytakemodmdhglnaa.PA
