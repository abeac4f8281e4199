/- Functions of the program, in plain Lean, and their walks (printed; half the indent). Conditions: none. -/
-- PRINTED by print.py (a twelfth state) out of the translation. Not trusted: Lean checks it.
import Derived.Test.YtakemodmdhglnaaPAx0
namespace Go.Proofs.Ytakemodmdhglnaa.PA
open Go.RowKit Go.Proofs.YtakemodmdhglnaaW.PrintWords Go.Proofs.YtakemodmdhglnaaW.PrintLast Go.Proofs.YtakemodmdhglnaaW.PrintMore
attribute [local go_sem] zqbb zqaz zqbd zqbe zqax zqay zqba zqbc   -- for this text's walks alone
set_option linter.unusedVariables false
set_option linter.unusedSimpArgs false

/-! HAND stuff_Most: function 65 -/
def mostOf (n : Int) : Int := (if n ≤ 0 then 0 else (n - 1) / 4)
def stuff_Most.f (a0 : Int) : Option (Int × Int) := if a0 < 0 then some (0, 10) else if a0 ≤ 9223372036854775807 then some (mostOf a0, 0) else none
theorem stuff_Most.calls (a0 : Int) (r1 : Int) (r2 : Int) (w : World) (h : stuff_Most.f a0 = some (r1, r2)) :
  Calls Try.prog 65 #[.int .i64 a0] w fun e w' => e = .returned (.tuple #[.int .i64 r1, .int .i64 r2]) ∧ Drawn0 w w' := by
 unfold stuff_Most.f at h
 by_cases c : a0 < 0
 ·
  rw [if_pos c] at h
  simp only [Option.some.injEq, Prod.mk.injEq] at h
  obtain ⟨rfl, rfl⟩ := h
  go_enter Try.func65, Try.ntmps65
  go_wp2
  go_ret2
  exact ⟨rfl, Drawn0.refl _⟩
 ·
  rw [if_neg c] at h
  by_cases hb : a0 ≤ 9223372036854775807
  ·
   rw [if_pos hb] at h
   simp only [Option.some.injEq, Prod.mk.injEq] at h
   obtain ⟨e, rfl⟩ := h
   have HE := Aside0.mk e
   clear e
   have c' : 0 ≤ a0 := by omega
   clear c
   by_cases c1 : a0 - 1 < 0
   ·
    go_enter Try.func65, Try.ntmps65
    go_wp2
    go_ret2
    exact ⟨by rw [← HE.out]; simp [mostOf, show a0 ≤ 0 by omega], Drawn0.refl _⟩
   ·
    go_enter Try.func65, Try.ntmps65
    go_wp2
    go_ret2
    exact ⟨by rw [← HE.out]; unfold mostOf; rw [if_neg (by omega)]; rfl, Drawn0.refl _⟩
  ·
   rw [if_neg hb] at h
   exact absurd h (by simp)


end Go.Proofs.Ytakemodmdhglnaa.PA
