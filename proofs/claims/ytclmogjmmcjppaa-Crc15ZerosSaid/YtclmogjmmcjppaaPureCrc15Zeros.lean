/- magnetolaw02.Crc15Zeros answers true for every row, number and two sums: a level turns the sum's going on, no two sums go on to one, and zeros in front change nothing. Conditions: none. -/
import Derived.Test.YtclmogjmmcjppaaRCrc15Zeros
import Derived.Test.YtclmogjmmcjppaaQCrc
import Derived.Test.YtclmogjmmcjppaaQAwakeN02
namespace Go.Proofs.Ytclmogjmmcjppaa.Pure
open Go.RowKit Go.Proofs.Ytclmogjmmcjppaa.PA Go.Proofs.YtclmogjmmcjppaaW.PrintWords Go.Proofs.YtclmogjmmcjppaaW.PrintLast Go.Proofs.YtclmogjmmcjppaaW.PrintMore

theorem norm_sum (x : Int) : ∃ n : Nat, n < 32768 ∧ Int.tmod (wrap64 ((Int.tmod x 32768) + 32768)) 32768 = (n : Int) := by
  have h1 := Int.tmod_lt_of_pos x (show (0 : Int) < 32768 by omega)
  have h2 : -32768 < Int.tmod x 32768 := by
    have := Int.lt_tmod_of_pos x (show (0 : Int) < 32768 by omega)
    omega
  rw [wrap_in (by omega) (by omega), Int.tmod_eq_emod_of_nonneg (by omega)]
  exact ⟨(((Int.tmod x 32768) + 32768) % 32768).toNat, by omega, by omega⟩
theorem lv_zeros (n : Nat) (l : List Int) : isLv (List.replicate n 0 ++ l) ↔ isLv l := by
  rw [isLv_append]
  exact ⟨fun h => h.2, fun h => ⟨isLv_replicate n (.inl rfl), h⟩⟩
theorem crcN_zeros (n : Nat) (l : List Int) : crcN (List.replicate n 0 ++ l) = crcN l := by
  unfold crcN
  rw [nats_append, sumN_append]
  have : nats (List.replicate n 0) = List.replicate n 0 := by simp [nats]
  rw [this, sumN_zeros]
theorem rightB_zeros (n : Nat) (l : List Int) (h : 15 ≤ l.length) : rightB (List.replicate n 0 ++ l) = rightB l := by
  unfold rightB
  have e : (List.replicate n 0 ++ l).length - 15 = (List.replicate n (0 : Int)).length + (l.length - 15) := by
    rw [List.length_append]; omega
  rw [decide_eq_true (by rw [List.length_append]; omega), decide_eq_true h, e, List.drop_length_add_append, List.take_length_add_append, crcN_zeros]
  simp [lv_zeros]
theorem Crc15Zeros : magnetolaw02_Crc15Zeros.Pure := by
  intro l n s t _ _ _ _ _
  obtain ⟨k, hk⟩ : ∃ k : Nat, k = 3000 := ⟨_, rfl⟩
  refine ⟨k, ?_⟩
  obtain ⟨k, rfl⟩ : ∃ m, k = m + 1 := ⟨k - 1, by omega⟩
  have hout : magnetolaw02_Crc15Zeros.j0 (k + 1) l n true s t = some true := by
    simp only [magnetolaw02_Crc15Zeros.j0]
    rw [if_pos trivial, awake02]
    rfl
  unfold magnetolaw02_Crc15Zeros.f
  by_cases hl : (l.length : Int) > 300
  · rw [if_pos hl]
    exact hout
  rw [if_neg hl]
  by_cases hn : n < 0
  · rw [if_pos hn]
    exact hout
  rw [if_neg hn]
  by_cases hn' : n > 100
  · rw [decide_eq_true hn']
    exact hout
  rw [decide_eq_false hn']
  simp only [magnetolaw02_Crc15Zeros.j0]
  rw [if_neg (by simp)]
  obtain ⟨a, ha, ea⟩ := norm_sum s
  obtain ⟨b, hb, eb⟩ := norm_sum t
  rw [ea, eb]
  obtain ⟨n, rfl⟩ := Int.eq_ofNat_of_zero_le (show 0 ≤ n by omega)
  -- behind the loop
  have hend : ∀ k, 900 < k → magnetolaw02_Crc15Zeros.l0 k l (n : Int) (a : Int) (b : Int) 2 = some true := by
    intro k hk
    obtain ⟨k, rfl⟩ : ∃ m, k = m + 1 := ⟨k - 1, by omega⟩
    obtain ⟨k, rfl⟩ : ∃ m, k = m + 1 := ⟨k - 1, by omega⟩
    simp only [magnetolaw02_Crc15Zeros.l0]
    rw [if_neg (by omega), if_pos (by omega), if_pos (by omega), Int.toNat_natCast]
    simp only [Option.bind_some]
    rw [if_pos (by rw [List.length_replicate]; omega)]
    have hj : magnetolaw02_Crc15Zeros.j2 (k + 1) l (List.replicate n 0 ++ l) false = some true := by
      simp only [magnetolaw02_Crc15Zeros.j2]
      rw [if_neg (by simp)]
      by_cases h15 : (l.length : Int) < 15
      · rw [if_pos h15, awake02]
        rfl
      · rw [if_neg h15, right_eq l (by omega) (by omega), right_eq _ (by rw [List.length_append, List.length_replicate]; omega) (by rw [List.length_append, List.length_replicate]; omega)]
        simp only [Option.bind_some]
        rw [rightB_zeros n l (by omega), if_pos (by simp), awake02]
        rfl
    by_cases hlv : isLv l
    · rw [sum_lv hlv, sum_lv ((lv_zeros n l).2 hlv), crcN_zeros]
      simp only [Option.bind_some]
      rw [if_pos trivial]
      exact hj
    · rw [sum_no hlv, sum_no (fun h => hlv ((lv_zeros n l).1 h))]
      simp only [Option.bind_some]
      rw [if_pos trivial]
      exact hj
  have hstep : ∀ (k x : Nat), x < 2 → magnetolaw02_Crc15Zeros.l0 k l (n : Int) (a : Int) (b : Int) ((x : Int) + 1) = some true → magnetolaw02_Crc15Zeros.l0 (k + 1) l (n : Int) (a : Int) (b : Int) (x : Int) = some true := by
    intro k x hx h
    simp only [magnetolaw02_Crc15Zeros.l0]
    rw [if_pos (by omega), step_yes a x ha hx, step_yes b x hb hx, wrap_in (x := 1 - (x : Int)) (by omega) (by omega), show 1 - (x : Int) = ((1 - x : Nat) : Int) by omega, step_yes a (1 - x) ha (by omega)]
    simp only [Option.bind_some]
    have h1 := stepN_lt a x
    have h2 := stepN_lt a (1 - x)
    have hneg : ¬ (((((stepN a x : Nat) : Int) == ((stepN b x : Nat) : Int)) != ((a : Int) == (b : Int))) = true) := by
      by_cases hab : a = b
      · subst hab
        simp
      · have : stepN a x ≠ stepN b x := fun e => hab (stepN_inj ha hb e)
        have e1 : (((stepN a x : Nat) : Int) == ((stepN b x : Nat) : Int)) = false := by
          rw [beq_eq_false_iff_ne]; omega
        have e2 : ((a : Int) == (b : Int)) = false := by
          rw [beq_eq_false_iff_ne]; omega
        rw [e1, e2]
        simp
    rw [if_pos trivial, if_pos trivial, if_pos trivial, if_neg hneg, i64_xor_nat _ _ (by omega) (by omega), stepN_other a x hx, if_pos (show ((17817 : Nat) : Int) = 17817 from rfl), wrap_in (by omega) (by omega)]
    exact h
  obtain ⟨k, rfl⟩ : ∃ m, k = m + 1 := ⟨k - 1, by omega⟩
  obtain ⟨k, rfl⟩ : ∃ m, k = m + 1 := ⟨k - 1, by omega⟩
  exact hstep _ 0 (by omega) (hstep _ 1 (by omega) (hend _ (by omega)))
end Go.Proofs.Ytclmogjmmcjppaa.Pure
