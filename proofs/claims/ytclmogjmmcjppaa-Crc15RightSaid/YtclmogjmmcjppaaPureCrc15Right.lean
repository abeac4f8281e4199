/- magnetolaw02.Crc15Right answers true for every row and number: levels with their sum's bits behind them are right, and have the sum 0, and no other 15 are. Conditions: none. -/
import Derived.Test.YtclmogjmmcjppaaPAx16
import Derived.Test.YtclmogjmmcjppaaQCrc
import Derived.Test.YtclmogjmmcjppaaQAwakeN02
namespace Go.Proofs.Ytclmogjmmcjppaa.Pure
open Go.RowKit Go.Proofs.Ytclmogjmmcjppaa.PA Go.Proofs.YtclmogjmmcjppaaW.PrintWords Go.Proofs.YtclmogjmmcjppaaW.PrintLast Go.Proofs.YtclmogjmmcjppaaW.PrintMore

theorem right_of_bits (l : List Int) (h : isLv l) (c : Nat) (hc : c < 32768) : rightB (l ++ ofI (c : Int) 15) = decide (c = crcN l) := by
  rw [rightB_append _ _ (ofI_length 15 _), decide_eq_true h, decide_eq_true (ofI_lv 15 _)]
  simp only [Bool.true_and, decide_eq_decide]
  constructor
  · intro e
    have := ofI_inj (by omega) (by omega) (by omega) (by have := crcN_lt l; omega) e
    omega
  · rintro rfl
    rfl
theorem Crc15Right : magnetolaw02_Crc15Right.Pure := by
  intro l o _ _ _ ho
  obtain ⟨k, hk⟩ : ∃ k : Nat, k = 3000 := ⟨_, rfl⟩
  refine ⟨k, ?_⟩
  unfold magnetolaw02_Crc15Right.f
  by_cases hl : (l.length : Int) > 300
  · rw [if_pos hl, awake02]
    rfl
  · rw [if_neg hl]
    by_cases hlv : isLv l
    · have hb := crcN_lt l
      rw [sum_lv hlv]
      simp only [Option.bind_some]
      rw [if_pos trivial, bits_yes _ hb (by omega)]
      simp only [Option.bind_some]
      rw [if_pos trivial, ofI_length]
      obtain ⟨k, rfl⟩ : ∃ m, k = m + 1 := ⟨k - 1, by omega⟩
      simp only [magnetolaw02_Crc15Right.j0]
      rw [if_neg (by simp)]
      simp only [Option.bind_some, List.nil_append]
      have h1 := bounds_i64 ho
      have ho2 : ∃ c : Nat, c < 32768 ∧ Int.tmod (wrap64 (Int.tmod o 32768 + 32768)) 32768 = (c : Int) := by
        have ht : -32768 < Int.tmod o 32768 ∧ Int.tmod o 32768 < 32768 := by
          constructor
          · have := Int.lt_tmod_of_pos o (show (0 : Int) < 32768 by omega); omega
          · exact Int.tmod_lt_of_pos o (by omega)
        rw [wrap_in (by omega) (by omega), Int.tmod_eq_emod_of_nonneg (by omega)]
        exact ⟨((Int.tmod o 32768 + 32768) % 32768).toNat, by omega, by omega⟩
      obtain ⟨c, hc, hoc⟩ := ho2
      rw [hoc]
      have hlb : isLv (l ++ ofI ((crcN l : Nat) : Int) 15) := isLv_append.2 ⟨hlv, ofI_lv 15 _⟩
      have hlc : isLv (l ++ ofI (c : Int) 15) := isLv_append.2 ⟨hlv, ofI_lv 15 _⟩
      rw [if_pos (by simp; omega), if_pos (by rw [ofI_length]; omega), sum_lv hlb]
      simp only [Option.bind_some]
      rw [bits_yes c hc (by omega)]
      simp only [Option.bind_some]
      rw [if_pos trivial, if_pos (by rw [crcN_append_bits, sum_self hb]; rfl), right_eq _ (by rw [List.length_append, ofI_length]; omega) (by rw [List.length_append, ofI_length]; omega), right_of_bits l hlv _ hb]
      simp only [Option.bind_some, decide_true]
      rw [if_pos trivial]
      obtain ⟨k, rfl⟩ : ∃ m, k = m + 1 := ⟨k - 1, by omega⟩
      simp only [magnetolaw02_Crc15Right.j1]
      rw [if_neg (by simp)]
      simp only [Option.bind_some, List.nil_append]
      rw [if_pos (by simp; omega), if_pos (by rw [ofI_length]; omega), sum_lv hlc]
      simp only [Option.bind_some]
      rw [right_eq _ (by rw [List.length_append, ofI_length]; omega) (by rw [List.length_append, ofI_length]; omega), right_of_bits l hlv c hc]
      simp only [Option.bind_some]
      have e1 : ((c : Int) == ((crcN l : Nat) : Int)) = decide (c = crcN l) := by
        rw [Bool.eq_iff_iff]
        simp
        omega
      have e2 : ((((crcN (l ++ ofI (c : Int) 15) : Nat) : Int)) == 0) = decide (c = crcN l) := by
        rw [crcN_append_bits, Bool.eq_iff_iff]
        simp only [beq_iff_eq, decide_eq_true_eq]
        rw [← sum_bits_iff hb hc]
        omega
      rw [e1, e2, if_pos (by simp), if_pos trivial, if_pos (by simp), awake02]
      rfl
    · rw [sum_no hlv]
      simp only [Option.bind_some]
      have hr : rightB l = false := by
        unfold rightB
        rw [decide_eq_false hlv]
        simp
      rw [if_neg (by omega), if_pos trivial, right_eq l (by omega) (by omega), hr]
      simp only [Option.bind_some]
      rw [if_neg (by simp), awake02]
      rfl
end Go.Proofs.Ytclmogjmmcjppaa.Pure
