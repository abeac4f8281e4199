/- The pure statement of FieldNexts, in plain Lean. -/
import Derived.Test.YtakemodmdhglnaaPAx24
import Derived.Test.YtakemodmdhglnaaQField
import Derived.Test.YtakemodmdhglnaaQAwake04
namespace Go.Proofs.Ytakemodmdhglnaa.Pure
open Go.RowKit Go.Proofs.Ytakemodmdhglnaa.PA Go.Proofs.YtakemodmdhglnaaW.PrintWords Go.Proofs.YtakemodmdhglnaaW.PrintLast

theorem FieldNexts : magnetolaw04_FieldNexts.Pure := by
  intro l0 _ _ _
  refine ⟨400, ?_⟩
  unfold magnetolaw04_FieldNexts.f
  by_cases c0 : (l0.length : Int) > 200
  · rw [if_pos c0, awake04 (by omega)]
    rfl
  rw [if_neg c0]
  obtain ⟨b, hb, hb'⟩ := levels4_eq l0 (by omega) (k := 400) (by omega)
  by_cases hl : isLv l0
  · obtain rfl : b = true := hb'.mpr hl
    have hn := next_lv hl (by omega)
    have hr := nx_range l0
    have hj : ∀ x3 x4 x5, ((nx l0).1 < 0 → x3 = 0 ∧ x4 = 0 ∧ x5 = 12) → (0 ≤ (nx l0).1 → x3 = (nx l0).1 ∧ x4 = (nx l0).2 ∧ x5 = 0) → magnetolaw04_FieldNexts.j0 400 l0 x3 x4 x5 false = some true := by
      intro x3 x4 x5 h1 h2
      simp only [magnetolaw04_FieldNexts.j0]
      rw [if_neg (by decide), refNext_eq hl (by omega) (by omega)]
      simp only [Option.bind_some]
      rw [show nextGo (Wd l0) (Wd l0) 0 (l0.length : Int) = nx l0 from rfl]
      by_cases c : (nx l0).1 < 0
      · obtain ⟨rfl, rfl, rfl⟩ := h1 c
        rw [if_pos c, if_pos rfl, if_pos rfl, if_pos rfl, awake04 (by omega)]
        rfl
      · obtain ⟨rfl, rfl, rfl⟩ := h2 (by omega)
        rw [if_neg c, kind_eq (by omega) hr.2 (by omega)]
        simp only [Option.bind_some, if_true]
        rw [awake04 (by omega)]
        rfl
    have hj' : magnetolaw04_FieldNexts.j0 400 l0 (if (nx l0).1 < 0 then ((0 : Int), (0 : Int), (12 : Int)) else ((nx l0).1, (nx l0).2, 0)).1 (if (nx l0).1 < 0 then ((0 : Int), (0 : Int), (12 : Int)) else ((nx l0).1, (nx l0).2, 0)).2.1 (if (nx l0).1 < 0 then ((0 : Int), (0 : Int), (12 : Int)) else ((nx l0).1, (nx l0).2, 0)).2.2 false = some true := by
      refine hj _ _ _ (fun c => ?_) (fun c => ?_)
      · rw [if_pos c]
        exact ⟨rfl, rfl, rfl⟩
      · rw [if_neg (by omega)]
        exact ⟨rfl, rfl, rfl⟩
    rw [hn, ahead_eq hl, hb]
    simp only [Option.bind_some, if_true]
    rw [refAhead_eq hl (by omega)]
    simp only [Option.bind_some]
    by_cases hw : whole l0
    · have hp : 0 ≤ aheadN l0 := by
        have := dl_bounds hl (by have := hw.2; split at this <;> omega) (fun e => by have := hw.2; rw [if_pos e] at this; exact this)
        unfold aheadN
        split <;> omega
      simp only [if_pos hw]
      rw [if_neg (by omega), if_pos (by omega), if_pos trivial]
      exact hj'
    · simp only [if_neg hw]
      rw [if_pos (by decide), if_pos trivial, if_pos trivial, if_neg (by decide)]
      exact hj'
  · obtain rfl : b = false := by
      cases b
      · rfl
      · exact absurd (hb'.mp rfl) hl
    rw [next_no hl, ahead_no hl, hb]
    simp only [Option.bind_some, if_true]
    rw [if_neg (by decide), awake04 (by omega)]
    rfl
end Go.Proofs.Ytakemodmdhglnaa.Pure
