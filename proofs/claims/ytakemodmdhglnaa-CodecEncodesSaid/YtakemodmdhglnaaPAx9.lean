/- Functions of the program, in plain Lean, and their walks (printed; half the indent). Conditions: none. -/
-- PRINTED by print.py (a twelfth state) out of the translation. Not trusted: Lean checks it.
import Derived.Test.YtakemodmdhglnaaPAx0
namespace Go.Proofs.Ytakemodmdhglnaa.PA
open Go.RowKit Go.Proofs.YtakemodmdhglnaaW.PrintWords Go.Proofs.YtakemodmdhglnaaW.PrintLast Go.Proofs.YtakemodmdhglnaaW.PrintMore
attribute [local go_sem] zqbb zqaz zqbd zqbe zqax zqay zqba zqbc   -- for this text's walks alone
set_option linter.unusedVariables false
set_option linter.unusedSimpArgs false

/-! ### crc15_step: function 69 -/
def crc15_step.f (a0 : Int) (a1 : Int) : Option (Int) := if (((Go.bits .and .i64 a0 16384) != 0) != (a1 == 1)) = true then (some (Go.bits .xor .i64 (Go.bits .and .i64 (wrap64 (a0 * 2)) 32767) 17817)) else (some (Go.bits .and .i64 (wrap64 (a0 * 2)) 32767))
set_option maxHeartbeats 8000000 in
set_option maxRecDepth 100000 in
theorem crc15_step.calls (a0 : Int) (a1 : Int) (r : Int) (w : World) (h : crc15_step.f a0 a1 = some r) :
  Calls Try.prog 69 #[.int .i64 a0, .int .i64 a1] w fun e w' => e = .returned (.int .i64 r) ∧ Drawn0 w w' := by
 have H : (if (((Go.bits .and .i64 a0 16384) != 0) != (a1 == 1)) = true then (some (Go.bits .xor .i64 (Go.bits .and .i64 (wrap64 (a0 * 2)) 32767) 17817)) else (some (Go.bits .and .i64 (wrap64 (a0 * 2)) 32767))) = some r := h
 clear h
 by_cases c3 : (((Go.bits .and .i64 a0 16384) != 0) != (a1 == 1)) = true
 ·
  rw [if_pos c3] at H
  have c3b0 : (((Go.bits .and .i64 a0 16384) != 0) != (a1 == 1)) = true := c3
  (try (have c3b1 : decide (((Go.bits .and .i64 a0 16384) != 0) = (a1 == 1)) = false := by simpa using c3))
  (try (have c3b2 : (((Go.bits .and .i64 a0 16384) != 0) == (a1 == 1)) = false := by simpa using c3))
  (try (have c3b3 : ¬ (((Go.bits .and .i64 a0 16384) != 0) = (a1 == 1)) := by simpa using c3))
  clear c3
  obtain rfl := Option.some.inj H
  go_enter Try.func69, Try.ntmps69
  go_wp2
  go_ret
  exact ⟨by first | rfl | (simp; done) | (simp [*]; done), by repeat (first | exact Drawn0.refl _ | apply Drawn0.step)⟩
 ·
  rw [if_neg c3] at H
  have c3b0 : (((Go.bits .and .i64 a0 16384) != 0) != (a1 == 1)) = false := by simpa using c3
  (try (have c3b1 : decide (((Go.bits .and .i64 a0 16384) != 0) = (a1 == 1)) = true := by simpa using c3))
  (try (have c3b2 : (((Go.bits .and .i64 a0 16384) != 0) == (a1 == 1)) = true := by simpa using c3))
  clear c3
  obtain rfl := Option.some.inj H
  go_enter Try.func69, Try.ntmps69
  go_wp2
  go_ret
  exact ⟨by first | rfl | (simp; done) | (simp [*]; done), by repeat (first | exact Drawn0.refl _ | apply Drawn0.step)⟩

end Go.Proofs.Ytakemodmdhglnaa.PA
