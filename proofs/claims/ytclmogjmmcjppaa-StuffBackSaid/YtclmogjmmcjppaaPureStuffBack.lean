/- magnetolaw05.StuffBack answers true for every two rows: what is stuffed is taken as it was, has no six alike, and not too many more; what is taken is stuffed as it stood. Conditions: none. -/
import Derived.Test.YtclmogjmmcjppaaPAx25
import Derived.Test.YtclmogjmmcjppaaQStuff
import Derived.Test.YtclmogjmmcjppaaQAwake05
import Derived.Test.YtclmogjmmcjppaaQInts05
namespace Go.Proofs.Ytclmogjmmcjppaa.Pure
open Go.RowKit Go.Proofs.Ytclmogjmmcjppaa.PA Go.Proofs.YtclmogjmmcjppaaW.PrintWords Go.Proofs.YtclmogjmmcjppaaW.PrintLast Go.Proofs.YtclmogjmmcjppaaW.PrintMore

theorem StuffBack : magnetolaw05_StuffBack.Pure := by
  intro l m _ _ _ _ _ _
  obtain ⟨k, hk⟩ : ∃ k : Nat, k = 3000 := ⟨_, rfl⟩
  refine ⟨k, ?_⟩
  obtain ⟨k, rfl⟩ : ∃ m, k = m + 1 + 1 := ⟨k - 2, by omega⟩
  have hout : magnetolaw05_StuffBack.j0 (k + 1 + 1) l m true = some true := by
    simp only [magnetolaw05_StuffBack.j0]
    rw [if_pos trivial, awake05 (by omega)]
    rfl
  unfold magnetolaw05_StuffBack.f
  by_cases hl : (l.length : Int) > 300
  · rw [if_pos hl]
    exact hout
  rw [if_neg hl]
  by_cases hm : (m.length : Int) > 300
  · rw [decide_eq_true hm]
    exact hout
  rw [decide_eq_false hm]
  have hj1 : magnetolaw05_StuffBack.j1 (k + 1) m = some true := by
    simp only [magnetolaw05_StuffBack.j1]
    rw [take_eq m (by omega) (by omega)]
    simp only [Option.bind_some]
    unfold takeAll
    by_cases hv : isLv m
    · rw [if_pos hv]
      cases h : takeR m with
      | mk a ie =>
      obtain ⟨i, e⟩ := ie
      simp only
      by_cases he : e = 0
      · subst he
        obtain ⟨h1, h2, h3, h4⟩ := takeR_ok hv h
        rw [if_pos rfl, add_lv h4 (by omega), h1]
        simp only [Option.bind_some]
        rw [ints05_eq _ _ (by omega) _ (by omega)]
        simp only [Option.bind_some, decide_true]
        rw [if_pos trivial, awake05 (by omega)]
        rfl
      · obtain ⟨h1, h2, h3⟩ := takeR_err h he
        subst h1
        rw [if_neg he, if_pos (by simp), if_pos (by omega), if_pos (by omega), awake05 (by omega)]
        rfl
    · have hc := chk_ge hv
      rw [if_neg hv]
      simp only
      rw [if_neg (by omega), if_pos (by simp), if_pos (by omega), if_pos (by omega), awake05 (by omega)]
      rfl
  simp only [magnetolaw05_StuffBack.j0]
  rw [if_neg (by simp), check_eq]
  simp only [Option.bind_some]
  by_cases hv : isLv l
  · have hs := stuffed_length l
    have hs' := stuffed_most l
    have hlo := stuffed_longest l
    rw [chk_of_lv hv, if_pos (by omega), add_lv hv (by omega)]
    simp only [Option.bind_some]
    have ht : stuff_Take.f (k + 1) (stuffed l) = some (l, 0, 0) := by
      rw [take_eq _ (by omega) (by omega)]
      unfold takeAll
      rw [if_pos (stuffed_lv hv), takeR_add]
    rw [ht, most_yes _ (by omega) (by omega)]
    simp only [Option.bind_some]
    rw [if_pos trivial, if_pos trivial, ints05_eq _ _ (by omega) _ (by omega), longest_eq _ (by omega) (by omega), count_lv hv (by omega), wrap_in (by omega) (by omega)]
    simp only [Option.bind_some, decide_true]
    rw [if_pos trivial, if_neg (by omega), if_pos trivial, if_neg (by split <;> omega), if_pos trivial]
    exact hj1
  · rw [if_neg (by have := chk_ge hv; omega), add_no hv]
    simp only [Option.bind_some]
    rw [if_pos (by simp)]
    exact hj1
end Go.Proofs.Ytclmogjmmcjppaa.Pure
