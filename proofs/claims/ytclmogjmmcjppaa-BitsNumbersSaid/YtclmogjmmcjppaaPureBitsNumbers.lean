/- magnetolaw01.BitsNumbers answers true for every number, width and row: the bits that a number has, and the number that levels are. Conditions: none. -/
import Derived.Test.YtclmogjmmcjppaaPAx5
import Derived.Test.YtclmogjmmcjppaaQRef01
import Derived.Test.YtclmogjmmcjppaaQAwake01
import Derived.Test.YtclmogjmmcjppaaQInts01
namespace Go.Proofs.Ytclmogjmmcjppaa.Pure
open Go.RowKit Go.Proofs.Ytclmogjmmcjppaa.PA Go.Proofs.YtclmogjmmcjppaaW.PrintWords Go.Proofs.YtclmogjmmcjppaaW.PrintLast Go.Proofs.YtclmogjmmcjppaaW.PrintMore

theorem bitsNumbers_j1 (l : List Int) (hl : l.length ≤ 300) {k : Nat} (hk : 2000 < k) : magnetolaw01_BitsNumbers.j1 k l = some true := by
  obtain ⟨k, rfl⟩ : ∃ m, k = m + 1 := ⟨k - 1, by omega⟩
  simp only [magnetolaw01_BitsNumbers.j1]
  by_cases h64 : 64 < l.length
  · rw [value_long h64]
    simp only [Option.bind_some]
    rw [if_pos (by omega), if_pos trivial, if_pos trivial, awake01 (by omega)]
    rfl
  · by_cases hlv : isLv l
    · rw [value_lv hlv (by omega) (by omega)]
      simp only [Option.bind_some]
      rw [if_neg (by omega), refCheck_eq l (by omega) (by omega), chk_of_lv hlv]
      simp only [Option.bind_some]
      rw [if_neg (by omega), refValue_lv hlv (by omega) (by omega)]
      simp only [Option.bind_some]
      rw [if_pos trivial, if_pos trivial, awake01 (by omega)]
      rfl
    · rw [value_no hlv (by omega)]
      simp only [Option.bind_some]
      rw [if_neg (by omega), refCheck_eq l (by omega) (by omega)]
      simp only [Option.bind_some]
      rw [if_pos (by have := chk_ge hlv; omega), if_pos trivial, if_pos trivial, awake01 (by omega)]
      rfl
theorem BitsNumbers : magnetolaw01_BitsNumbers.Pure := by
  intro n w l hn _ _ _ _
  refine ⟨3000, ?_⟩
  have hr := u64_range hn
  unfold magnetolaw01_BitsNumbers.f
  by_cases hl : (l.length : Int) > 300
  · rw [if_pos hl, awake01 (by omega)]
    rfl
  · rw [if_neg hl]
    by_cases hw : w < 0 ∨ w > 64
    · rw [of_no n w hw (by omega)]
      simp only [Option.bind_some]
      have hj : magnetolaw01_BitsNumbers.j0 3000 n w l [] 10 true = some true := by
        rw [show (3000 : Nat) = 2999 + 1 from rfl]
        simp only [magnetolaw01_BitsNumbers.j0]
        rw [if_pos trivial, if_pos (by simp), if_pos trivial]
        exact bitsNumbers_j1 l (by omega) (by omega)
      by_cases h0 : w < 0
      · rw [if_pos h0]; exact hj
      · rw [if_neg h0, decide_eq_true (by omega)]; exact hj
    · obtain ⟨m, rfl⟩ := Int.eq_ofNat_of_zero_le (show 0 ≤ w by omega)
      rw [of_yes n m hr.1 hr.2 (by omega) (by omega)]
      simp only [Option.bind_some]
      rw [if_neg (by omega), decide_eq_false (by omega)]
      rw [show (3000 : Nat) = 2999 + 1 from rfl]
      simp only [magnetolaw01_BitsNumbers.j0]
      rw [if_neg (by simp), if_pos trivial, refOf_eq n m hr.1 hr.2 (by omega) (by omega)]
      simp only [Option.bind_some]
      rw [ints01_eq _ _ (by rw [ofI_length]; omega) _ (by rw [ofI_length]; omega)]
      simp only [Option.bind_some, decide_true]
      rw [if_pos trivial]
      exact bitsNumbers_j1 l (by omega) (by omega)
end Go.Proofs.Ytclmogjmmcjppaa.Pure
