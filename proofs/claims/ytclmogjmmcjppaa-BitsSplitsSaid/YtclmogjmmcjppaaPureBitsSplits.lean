/- magnetolaw01.BitsSplits answers true for every number and any two widths: a number's bits are those of its upper part, and of its lower one. Conditions: none. -/
import Derived.Test.YtclmogjmmcjppaaPAx7
import Derived.Test.YtclmogjmmcjppaaQBits
import Derived.Test.YtclmogjmmcjppaaQAwake01
import Derived.Test.YtclmogjmmcjppaaQInts01
namespace Go.Proofs.Ytclmogjmmcjppaa.Pure
open Go.RowKit Go.Proofs.Ytclmogjmmcjppaa.PA Go.Proofs.YtclmogjmmcjppaaW.PrintWords Go.Proofs.YtclmogjmmcjppaaW.PrintLast Go.Proofs.YtclmogjmmcjppaaW.PrintMore

theorem bitsSplits_or (n : Int) (h0 : 0 ≤ n) (h1 : n < 18446744073709551616) (a b : Nat) (hab : a + b ≤ 64) :
    Go.bits .or .u64 (shl .u64 ((n / 2 ^ b) % 2 ^ a) (b : Int)) (n % 2 ^ b) = n % 2 ^ (a + b) := by
  have hp := pow_pos b
  have hpa := pow_pos a
  have e : n % 2 ^ (a + b) = (n / 2 ^ b) % 2 ^ a * 2 ^ b + n % 2 ^ b := by
    have h := valI_append (ofI (n / 2 ^ b) a) (ofI n b)
    rw [← ofI_append, valI_ofI, valI_ofI, valI_ofI, ofI_length] at h
    exact h
  have hr0 := Int.emod_nonneg n (show (2 : Int) ^ b ≠ 0 by omega)
  have hr1 := Int.emod_lt_of_pos n hp
  have hu0 := Int.emod_nonneg (n / 2 ^ b) (show (2 : Int) ^ a ≠ 0 by omega)
  have hs0 := Int.emod_nonneg n (show (2 : Int) ^ (a + b) ≠ 0 by have := pow_pos (a + b); omega)
  have hs1 : n % 2 ^ (a + b) ≤ n := by
    have := Int.emod_add_mul_ediv n (2 ^ (a + b))
    have h2 := Int.mul_nonneg (Int.le_of_lt (pow_pos (a + b))) (Int.ediv_nonneg h0 (Int.le_of_lt (pow_pos (a + b))))
    omega
  rw [e] at hs0 hs1 ⊢
  generalize hu : n / 2 ^ b % 2 ^ a = u at *
  generalize hv : n % 2 ^ b = v at *
  have hub : 0 ≤ u * 2 ^ b := Int.mul_nonneg hu0 (by omega)
  have hsh : shl .u64 u (b : Int) = u * 2 ^ b := by
    unfold shl
    rw [Int.toNat_natCast, Nat.min_eq_left (by simp [IntKind.bits]; omega), u64_wrap hub (by omega)]
  rw [hsh, u64_or _ _ hub (by omega) hr0 (by omega)]
  have e1 : (u * 2 ^ b).toNat = u.toNat * 2 ^ b := by
    obtain ⟨m, rfl⟩ := Int.eq_ofNat_of_zero_le hu0
    have : (m : Int) * 2 ^ b = ((m * 2 ^ b : Nat) : Int) := by simp
    rw [this, Int.toNat_natCast, Int.toNat_natCast]
  have e2 : v.toNat < 2 ^ b := by
    have h3 : (((2 : Nat) ^ b : Nat) : Int) = (2 : Int) ^ b := by simp
    omega
  rw [e1, nat_join b _ _ (by rw [Nat.mul_comm]; exact Nat.mul_mod_right _ _) e2]
  have h3 : ((u.toNat * 2 ^ b : Nat) : Int) = u * 2 ^ b := by
    obtain ⟨m, rfl⟩ := Int.eq_ofNat_of_zero_le hu0
    simp
  rw [Int.natCast_add, h3]
  omega
theorem BitsSplits : magnetolaw01_BitsSplits.Pure := by
  intro n a b hn ha hb
  refine ⟨3000, ?_⟩
  have hr := u64_range hn
  have hab := bounds_i64 ha
  have hbb := bounds_i64 hb
  unfold magnetolaw01_BitsSplits.f
  have hj : ∀ c, c = true ∨ (0 ≤ a ∧ 0 ≤ b ∧ a ≤ 64 ∧ b ≤ 64 - a) → magnetolaw01_BitsSplits.j0 3000 n a b c = some true := by
    intro c hc
    rw [show (3000 : Nat) = 2999 + 1 from rfl]
    simp only [magnetolaw01_BitsSplits.j0]
    by_cases h : c = true
    · rw [if_pos h, awake01 (by omega)]
      rfl
    · rw [if_neg h]
      obtain ⟨ha0, hb0, ha1, hb1⟩ := hc.resolve_left h
      clear ha hb
      obtain ⟨a, rfl⟩ := Int.eq_ofNat_of_zero_le ha0
      obtain ⟨b, rfl⟩ := Int.eq_ofNat_of_zero_le hb0
      rw [wrap_in (by omega) (by omega), show (a : Int) + (b : Int) = ((a + b : Nat) : Int) from by omega]
      have hs0 : 0 ≤ n / 2 ^ b := Int.ediv_nonneg hr.1 (Int.le_of_lt (pow_pos b))
      have hs1 : n / 2 ^ b ≤ n := Int.ediv_le_self _ hr.1
      rw [of_yes n (a + b) hr.1 hr.2 (by omega) (by omega)]
      simp only [Option.bind_some]
      rw [if_pos (by omega), shr_at n b (by omega), of_yes _ a hs0 (by omega) (by omega) (by omega), of_yes n b hr.1 hr.2 (by omega) (by omega)]
      simp only [Option.bind_some]
      rw [if_pos trivial, if_pos trivial, if_pos trivial]
      rw [if_pos (by rw [ofI_length]; simp; omega)]
      rw [if_pos (by rw [List.length_append, ofI_length, ofI_length]; simp; omega)]
      rw [ints01_eq _ _ (by rw [ofI_length]; omega) _ (by rw [ofI_length]; omega)]
      simp only [Option.bind_some, List.nil_append]
      rw [decide_eq_true (ofI_append b n a)]
      obtain ⟨m, hm⟩ : ∃ m, (2999 : Nat) = m + 1 := ⟨2998, rfl⟩
      rw [hm]
      simp only [magnetolaw01_BitsSplits.j1]
      rw [if_neg (by simp)]
      rw [value_lv (ofI_lv (a + b) n) (by rw [ofI_length]; omega) (by rw [ofI_length]; omega), value_lv (ofI_lv a _) (by rw [ofI_length]; omega) (by rw [ofI_length]; omega), value_lv (ofI_lv b _) (by rw [ofI_length]; omega) (by rw [ofI_length]; omega)]
      simp only [Option.bind_some]
      rw [if_pos trivial, if_pos trivial, if_pos trivial, if_pos (by omega), valI_ofI, valI_ofI, valI_ofI, if_pos (bitsSplits_or n hr.1 hr.2 a b (by omega)).symm, awake01 (by omega)]
      rfl
  by_cases h1 : a < 0
  · rw [if_pos h1]; exact hj true (.inl rfl)
  · rw [if_neg h1]
    by_cases h2 : b < 0
    · rw [if_pos h2]; exact hj true (.inl rfl)
    · rw [if_neg h2]
      by_cases h3 : a > 64
      · rw [if_pos h3]; exact hj true (.inl rfl)
      · rw [if_neg h3, wrap_in (by omega) (by omega)]
        by_cases h4 : b > 64 - a
        · rw [decide_eq_true h4]; exact hj true (.inl rfl)
        · rw [decide_eq_false h4]; exact hj false (.inr ⟨by omega, by omega, by omega, by omega⟩)
end Go.Proofs.Ytclmogjmmcjppaa.Pure
