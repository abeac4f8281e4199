/- magnetolaw02.Crc15Steps answers true for any two numbers: the sum behind a sum, and its levels, are the document's. Conditions: none. -/
import Derived.Test.YtclmogjmmcjppaaPAx15
import Derived.Test.YtclmogjmmcjppaaQRef02
import Derived.Test.YtclmogjmmcjppaaQAwakeN02
import Derived.Test.YtclmogjmmcjppaaQInts02
namespace Go.Proofs.Ytclmogjmmcjppaa.Pure
open Go.RowKit Go.Proofs.Ytclmogjmmcjppaa.PA Go.Proofs.YtclmogjmmcjppaaW.PrintWords Go.Proofs.YtclmogjmmcjppaaW.PrintLast Go.Proofs.YtclmogjmmcjppaaW.PrintMore

theorem Crc15Steps : magnetolaw02_Crc15Steps.Pure := by
  intro s x _ _
  obtain ⟨k, hk⟩ : ∃ k : Nat, k = 3000 := ⟨_, rfl⟩
  refine ⟨k, ?_⟩
  unfold magnetolaw02_Crc15Steps.f
  by_cases hs : s < 0 ∨ 32767 < s
  · rw [step_range s x hs, bits_no s hs]
    simp only [Option.bind_some]
    have hj : magnetolaw02_Crc15Steps.j0 k s x 0 10 [] 10 true = some true := by
      obtain ⟨k, rfl⟩ : ∃ m, k = m + 1 := ⟨k - 1, by omega⟩
      simp only [magnetolaw02_Crc15Steps.j0]
      rw [if_pos trivial, if_pos trivial, if_pos trivial, if_pos (by simp), if_pos trivial, awake02]
      rfl
    by_cases h0 : s < 0
    · rw [if_pos h0]; exact hj
    · rw [if_neg h0, decide_eq_true (by omega)]; exact hj
  · obtain ⟨n, rfl⟩ := Int.eq_ofNat_of_zero_le (show 0 ≤ s by omega)
    have hn : n < 32768 := by omega
    rw [bits_yes n hn (by omega)]
    have hd : decide ((n : Int) > 32767) = false := decide_eq_false (by omega)
    have hn0 : ¬ ((n : Int) < 0) := by omega
    have hj : ∀ a e, (a, e) = (if x = 0 ∨ x = 1 then (((stepN n x.toNat : Nat) : Int), (0 : Int)) else (0, 10)) → magnetolaw02_Crc15Steps.j0 k (n : Int) x a e (ofI (n : Int) 15) 0 false = some true := by
      intro a e hae
      obtain ⟨k, rfl⟩ : ∃ m, k = m + 1 := ⟨k - 1, by omega⟩
      simp only [magnetolaw02_Crc15Steps.j0]
      rw [if_neg (by simp), if_pos trivial, refOf2_eq n hn (by omega)]
      simp only [Option.bind_some]
      rw [ints02_eq _ _ (by rw [ofI_length]; omega) _ (by rw [ofI_length]; omega)]
      simp only [Option.bind_some, decide_true]
      obtain ⟨k, rfl⟩ : ∃ m, k = m + 1 := ⟨k - 1, by omega⟩
      simp only [magnetolaw02_Crc15Steps.j1]
      rw [if_neg (by simp)]
      have hj2 : ∀ b, b = !decide (x = 0 ∨ x = 1) → magnetolaw02_Crc15Steps.j2 k (n : Int) x a e b = some true := by
        intro b hb
        obtain ⟨k, rfl⟩ : ∃ m, k = m + 1 := ⟨k - 1, by omega⟩
        simp only [magnetolaw02_Crc15Steps.j2]
        by_cases hx : x = 0 ∨ x = 1
        · rw [if_pos hx] at hae
          simp only [Prod.mk.injEq] at hae
          obtain ⟨rfl, rfl⟩ := hae
          rw [decide_eq_true hx] at hb
          subst hb
          obtain ⟨m, rfl⟩ := Int.eq_ofNat_of_zero_le (show 0 ≤ x by omega)
          rw [if_neg (by simp), refOf2_eq n hn (by omega)]
          simp only [Option.bind_some]
          rw [refBehind_eq n m hn (by omega) (by omega)]
          simp only [Option.bind_some]
          rw [refValue2_ofI _ (stepN_lt n m) (by omega)]
          simp only [Option.bind_some, Int.toNat_natCast]
          rw [if_pos trivial, if_pos trivial, awake02]
          rfl
        · rw [if_neg hx] at hae
          simp only [Prod.mk.injEq] at hae
          obtain ⟨rfl, rfl⟩ := hae
          rw [decide_eq_false hx] at hb
          subst hb
          rw [awake02]
          rfl
      by_cases h0 : x = 0
      · rw [if_pos h0]
        exact hj2 _ (by simp [h0])
      · rw [if_neg h0]
        exact hj2 _ (by
          by_cases h1 : x = 1
          · simp [h1]
          · simp [h0, h1])
    by_cases hx : x = 0 ∨ x = 1
    · obtain ⟨m, rfl⟩ := Int.eq_ofNat_of_zero_le (show 0 ≤ x by omega)
      rw [step_yes n m hn (by omega)]
      simp only [Option.bind_some]
      rw [if_neg hn0, hd]
      exact hj _ _ (by rw [if_pos hx, Int.toNat_natCast])
    · rw [step_level _ _ hx]
      simp only [Option.bind_some]
      rw [if_neg hn0, hd]
      exact hj _ _ (by rw [if_neg hx])
end Go.Proofs.Ytclmogjmmcjppaa.Pure
