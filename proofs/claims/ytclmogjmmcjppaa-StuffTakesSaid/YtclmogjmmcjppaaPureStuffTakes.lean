/- magnetolaw05.StuffTakes answers true for every row: what is taken, where it is wrong, and what is next, are the document's. Conditions: none. -/
import Derived.Test.YtclmogjmmcjppaaPAx26
import Derived.Test.YtclmogjmmcjppaaQStuff
import Derived.Test.YtclmogjmmcjppaaQAwake05
import Derived.Test.YtclmogjmmcjppaaQInts05
namespace Go.Proofs.Ytclmogjmmcjppaa.Pure
open Go.RowKit Go.Proofs.Ytclmogjmmcjppaa.PA Go.Proofs.YtclmogjmmcjppaaW.PrintWords Go.Proofs.YtclmogjmmcjppaaW.PrintLast Go.Proofs.YtclmogjmmcjppaaW.PrintMore

theorem takeAll_length (l : List Int) : (takeAll l).1.length ≤ l.length := by
  unfold takeAll
  split
  · rename_i h
    unfold takeR
    cases ht : takeSt l with
    | error v => simp
    | ok v =>
      obtain ⟨q, u⟩ := v
      have := takeSt_ok l q u ht
      simp only
      split
      · simp
      · exact this.2.1
  · simp
theorem StuffTakes : magnetolaw05_StuffTakes.Pure := by
  intro l _ _ _
  obtain ⟨k, hk⟩ : ∃ k : Nat, k = 3000 := ⟨_, rfl⟩
  refine ⟨k, ?_⟩
  unfold magnetolaw05_StuffTakes.f
  by_cases hl : (l.length : Int) > 300
  · rw [if_pos hl, awake05 (by omega)]
    rfl
  have htl := takeAll_length l
  rw [if_neg hl, take_eq l (by omega) (by omega), refTake_eq l (by omega) (by omega), next_eq l (by omega) (by omega)]
  simp only [Option.bind_some]
  rw [ints05_eq _ _ (by omega) _ (by omega)]
  simp only [Option.bind_some, bne_self_eq_false]
  rw [if_pos (by simp), if_pos trivial]
  obtain ⟨k, rfl⟩ : ∃ m, k = m + 1 + 1 := ⟨k - 2, by omega⟩
  simp only [magnetolaw05_StuffTakes.j0]
  rw [if_neg (by simp), refCheck_eq l (by omega) (by omega), five_eq l (by omega) (by omega)]
  simp only [Option.bind_some]
  have hno : ¬ (isLv l ∧ 5 ≤ tailRun l) → magnetolaw05_StuffTakes.j1 (k + 1) l (nextF l).1 (nextF l).2 true = some true := by
    intro h
    simp only [magnetolaw05_StuffTakes.j1]
    rw [nextF_no h]
    simp only
    rw [if_pos trivial, if_neg (by simp), if_pos trivial, awake05 (by omega)]
    rfl
  by_cases hv : isLv l
  · rw [chk_of_lv hv, if_neg (by omega)]
    by_cases h5 : 5 ≤ tailRun l
    · have hle := tailRun_le l
      have hx : rd l ((l.length : Int) - 1) = 0 ∨ rd l ((l.length : Int) - 1) = 1 := by
        have := rd_lv hv (l.length - 1) (by omega)
        rwa [show ((l.length - 1 : Nat) : Int) = (l.length : Int) - 1 by omega] at this
      rw [decide_eq_true h5]
      simp only [magnetolaw05_StuffTakes.j1]
      rw [nextF_yes ⟨hv, h5⟩]
      simp only
      rw [if_neg (by simp), if_pos trivial, wrap_in (x := (l.length : Int) - 1) (by omega) (by omega), if_pos (by omega), if_pos (by omega), wrap_in (by omega) (by omega), if_pos rfl, awake05 (by omega)]
      rfl
    · rw [decide_eq_false h5]
      exact hno (fun h => h5 h.2)
  · rw [if_pos (chk_ge hv).1]
    exact hno (fun h => hv h.1)
end Go.Proofs.Ytclmogjmmcjppaa.Pure
