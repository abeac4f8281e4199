/- magnetolaw05.StuffAdds answers true for every row and number: what is added, how many, and how many at most, are the document's. Conditions: none. -/
import Derived.Test.YtclmogjmmcjppaaPAx22
import Derived.Test.YtclmogjmmcjppaaQStuff
import Derived.Test.YtclmogjmmcjppaaQRange
import Derived.Test.YtclmogjmmcjppaaQAwake05
import Derived.Test.YtclmogjmmcjppaaQInts05
namespace Go.Proofs.Ytclmogjmmcjppaa.Pure
open Go.RowKit Go.Proofs.Ytclmogjmmcjppaa.PA Go.Proofs.YtclmogjmmcjppaaW.PrintWords Go.Proofs.YtclmogjmmcjppaaW.PrintLast Go.Proofs.YtclmogjmmcjppaaW.PrintMore

theorem StuffAdds : magnetolaw05_StuffAdds.Pure := by
  intro l n _ _ _ hn
  obtain ⟨k, hk⟩ : ∃ k : Nat, k = 3000 := ⟨_, rfl⟩
  refine ⟨k, ?_⟩
  have hn' := int_range hn
  unfold magnetolaw05_StuffAdds.f
  by_cases hl : (l.length : Int) > 300
  · rw [if_pos hl, awake05 (by omega)]
    rfl
  rw [if_neg hl, refAdd_eq l (by omega) (by omega), refCheck_eq l (by omega) (by omega)]
  simp only [Option.bind_some]
  have hj1 : ∀ k, 900 < k → magnetolaw05_StuffAdds.j1 k n false = some true := by
    intro k hk
    obtain ⟨k, rfl⟩ : ∃ m, k = m + 1 := ⟨k - 1, by omega⟩
    simp only [magnetolaw05_StuffAdds.j1]
    rw [if_neg (by simp)]
    by_cases h0 : n < 0
    · rw [most_no n h0]
      simp only [Option.bind_some]
      rw [if_pos h0, if_pos trivial, if_pos trivial, awake05 (by omega)]
      rfl
    · rw [most_yes n (by omega) (by omega)]
      simp only [Option.bind_some]
      rw [if_neg h0]
      by_cases h1 : n = 0
      · rw [if_pos h1, if_pos (by rw [if_pos (by omega)]), if_pos trivial, awake05 (by omega)]
        rfl
      · have hq : Int.tdiv (n - 1) 4 = (n - 1) / 4 := Int.tdiv_eq_ediv_of_nonneg (by omega)
        have hm : (if n ≤ 0 then (0 : Int) else (n - 1) / 4) = (n - 1) / 4 := if_neg (by omega)
        rw [if_neg h1, hm, wrap_in (x := n - 1) (by omega) (by omega), hq, wrap_in (by omega) (by omega), if_pos rfl, if_pos trivial, awake05 (by omega)]
        rfl
  have hj0 : ∀ (k : Nat) (s : List Int) (c : Int), 1500 < k → stuff_Add.f l = some s → s.length ≤ 600 → stuff_Count.f l = some c → magnetolaw05_StuffAdds.j0 k l n s c = some true := by
    intro k s c hk hs hs6 hc
    obtain ⟨k, rfl⟩ : ∃ m, k = m + 1 := ⟨k - 1, by omega⟩
    simp only [magnetolaw05_StuffAdds.j0]
    rw [hs, hc]
    simp only [Option.bind_some]
    rw [ints05_eq _ _ (by omega) _ (by omega)]
    simp only [Option.bind_some]
    rw [if_pos (by simp)]
    have e : (c != c) = false := by simp
    rw [e]
    exact hj1 k (by omega)
  by_cases hv : isLv l
  · have hs := stuffed_length l
    rw [chk_of_lv hv, if_pos (by omega), if_pos hv, wrap_in (by omega) (by omega)]
    exact hj0 k _ _ (by omega) (add_lv hv (by omega)) (by omega) (count_lv hv (by omega))
  · rw [if_neg (by have := chk_ge hv; omega), if_neg hv]
    exact hj0 k _ _ (by omega) (add_no hv) (by simp) (count_no hv (by omega))
end Go.Proofs.Ytclmogjmmcjppaa.Pure
