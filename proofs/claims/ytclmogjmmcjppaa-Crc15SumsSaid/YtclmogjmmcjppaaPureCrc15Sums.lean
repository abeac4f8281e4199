/- magnetolaw02.Crc15Sums answers true for every row: the sum of levels, and which ones are right, are the document's. Conditions: none. -/
import Derived.Test.YtclmogjmmcjppaaPAx16
import Derived.Test.YtclmogjmmcjppaaQRef01
import Derived.Test.YtclmogjmmcjppaaQRef02
import Derived.Test.YtclmogjmmcjppaaQAwakeN02
import Derived.Test.YtclmogjmmcjppaaQInts02
namespace Go.Proofs.Ytclmogjmmcjppaa.Pure
open Go.RowKit Go.Proofs.Ytclmogjmmcjppaa.PA Go.Proofs.YtclmogjmmcjppaaW.PrintWords Go.Proofs.YtclmogjmmcjppaaW.PrintLast Go.Proofs.YtclmogjmmcjppaaW.PrintMore

theorem Crc15Sums : magnetolaw02_Crc15Sums.Pure := by
  intro l _ _ _
  obtain ⟨k, hk⟩ : ∃ k : Nat, k = 3000 := ⟨_, rfl⟩
  refine ⟨k, ?_⟩
  unfold magnetolaw02_Crc15Sums.f
  by_cases hl : (l.length : Int) > 300
  · rw [if_pos hl, awake02]
    rfl
  · rw [if_neg hl, right_eq l (by omega) (by omega), refCheck_eq l (by omega) (by omega)]
    by_cases hlv : isLv l
    · rw [sum_lv hlv, chk_of_lv hlv]
      simp only [Option.bind_some]
      rw [if_neg (by omega)]
      by_cases h15 : 15 ≤ l.length
      · rw [if_pos (by omega), wrap_in (by omega) (by omega), if_pos (by omega), if_pos (by omega), show ((l.length : Int) - 15).toNat = l.length - 15 by omega]
        rw [refSum_eq (isLv_take hlv _) (by rw [List.length_take]; omega) (by rw [List.length_take]; omega)]
        simp only [Option.bind_some]
        rw [ints02_eq _ _ (by rw [List.length_drop]; omega) _ (by rw [List.length_drop]; omega)]
        simp only [Option.bind_some]
        rw [refSum_eq hlv (by omega) (by omega)]
        simp only [Option.bind_some]
        rw [refValue2_ofI _ (crcN_lt l) (by omega)]
        simp only [Option.bind_some]
        have e : rightB l = decide (l.drop (l.length - 15) = ofI ((crcN (l.take (l.length - 15)) : Nat) : Int) 15) := by
          unfold rightB
          rw [decide_eq_true h15, decide_eq_true hlv]
          simp
        rw [if_pos trivial, if_pos trivial, if_pos (by rw [e]; simp), awake02]
        rfl
      · rw [if_neg (by omega), refSum_eq hlv (by omega) (by omega)]
        simp only [Option.bind_some]
        rw [refValue2_ofI _ (crcN_lt l) (by omega)]
        simp only [Option.bind_some]
        have e : rightB l = false := by
          unfold rightB
          rw [decide_eq_false h15]
          simp
        rw [if_pos trivial, if_pos trivial, if_pos (by rw [e]; rfl), awake02]
        rfl
    · rw [sum_no hlv]
      simp only [Option.bind_some]
      have e : rightB l = false := by
        unfold rightB
        rw [decide_eq_false hlv]
        simp
      rw [if_pos (chk_ge hlv).1, if_pos trivial, if_pos trivial, e, if_neg (by simp), awake02]
      rfl
end Go.Proofs.Ytclmogjmmcjppaa.Pure
