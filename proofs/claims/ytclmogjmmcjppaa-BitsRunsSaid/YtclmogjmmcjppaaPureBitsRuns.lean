/- magnetolaw01.BitsRuns answers true for every row: its runs are the document's, and the greatest one. Conditions: none. -/
import Derived.Test.YtclmogjmmcjppaaPAx8
import Derived.Test.YtclmogjmmcjppaaPAx7
import Derived.Test.YtclmogjmmcjppaaQRuns
import Derived.Test.YtclmogjmmcjppaaQAwake01
import Derived.Test.YtclmogjmmcjppaaQInts01
namespace Go.Proofs.Ytclmogjmmcjppaa.Pure
open Go.RowKit Go.Proofs.Ytclmogjmmcjppaa.PA Go.Proofs.YtclmogjmmcjppaaW.PrintWords Go.Proofs.YtclmogjmmcjppaaW.PrintLast Go.Proofs.YtclmogjmmcjppaaW.PrintMore

/-- A row all of one number, behind another run. -/
theorem runs_alike (l : List Int) (f : Nat) (c : Nat) (hf : f < l.length) (hc : f + c + 1 ≤ l.length) (hne : f = 0 ∨ rd l ((f : Int) - 1) ≠ rd l (f : Int)) (ha : ∀ j, f ≤ j → j ≤ f + c → rd l (j : Int) = rd l (f : Int)) :
    runs (l.take (f + c + 1)) = runs (l.take f) ++ [(c : Int) + 1] := by
  induction c with
  | zero =>
    rw [show f + 0 + 1 = f + 1 from rfl, take_snoc_rd l f hf, runs_snoc]
    unfold runStep
    rcases hne with h | h
    · subst h; simp
    · have h0 : f ≠ 0 := by
        rintro rfl
        apply h
        unfold rd
        simp
      have e1 : l.take f = l.take (f - 1) ++ [rd l ((f - 1 : Nat) : Int)] := by
        have := take_snoc_rd l (f - 1) (by omega)
        rwa [show f - 1 + 1 = f by omega] at this
      have hlast : (l.take f).getLast? = some (rd l ((f : Int) - 1)) := by
        rw [e1, List.getLast?_append, List.getLast?_singleton, show ((f - 1 : Nat) : Int) = (f : Int) - 1 by omega]
        rfl
      rw [hlast]
      simp only
      rw [if_neg (fun e => h e.symm)]
      simp
  | succ c ih =>
    have hi := ih (by omega) (fun j h1 h2 => ha j h1 (by omega))
    rw [show f + (c + 1) + 1 = (f + c + 1) + 1 from rfl, take_snoc_rd l (f + c + 1) (by omega), runs_snoc, hi]
    unfold runStep
    have hlast : (l.take (f + c + 1)).getLast? = some (rd l (f : Int)) := by
      rw [take_snoc_rd l (f + c) (by omega), List.getLast?_append, List.getLast?_singleton, ha (f + c) (by omega) (by omega)]
      rfl
    rw [hlast]
    simp only
    rw [if_pos (ha (f + c + 1) (by omega) (by omega))]
    rw [List.length_append, List.length_singleton, show (runs (l.take f)).length + 1 - 1 = (runs (l.take f)).length by omega, List.set_append_right _ _ (by omega)]
    simp
theorem refRuns_l0 (l : List Int) (hl : l.length ≤ 1000000000) (d : Nat) : ∀ (k i f : Nat), l.length + 1 - i = d → f < i → i ≤ l.length + 1 → (l.length < i → f = l.length) → d < k → (i ≤ l.length → f = 0 ∨ rd l ((f : Int) - 1) ≠ rd l (f : Int)) → (∀ j, f ≤ j → j < i → j < l.length → rd l (j : Int) = rd l (f : Int)) →
    magnetoref01_Runs.l0 k l (runs (l.take f)) (f : Int) (i : Int) = some (runs l) := by
  induction d with
  | zero =>
    intro k i f hd hf hi he hk hn ha
    obtain ⟨k, rfl⟩ : ∃ m, k = m + 1 := ⟨k - 1, by omega⟩
    simp only [magnetoref01_Runs.l0]
    rw [if_neg (by omega), he (by omega), List.take_of_length_le (by omega)]
  | succ d ih =>
    intro k i f hd hf hi he hk hn ha
    obtain ⟨k, rfl⟩ : ∃ m, k = m + 1 := ⟨k - 1, by omega⟩
    have hil : i ≤ l.length := by omega
    have hrl := runs_length (l.take f)
    rw [List.length_take] at hrl
    have hal := runs_alike l f (i - f - 1) (by omega) (by omega) (hn hil) (fun j h1 h2 => ha j h1 (by omega) (by omega))
    rw [show f + (i - f - 1) + 1 = i by omega, show ((i - f - 1 : Nat) : Int) + 1 = (i : Int) - f by omega] at hal
    simp only [magnetoref01_Runs.l0]
    rw [if_pos (by omega), wrap_in (x := (i : Int) + 1) (by omega) (by omega), wrap_in (x := (i : Int) - f) (by omega) (by omega), show (i : Int) + 1 = ((i + 1 : Nat) : Int) from by omega]
    by_cases hie : i = l.length
    · rw [if_pos (by omega), if_pos (by omega), ← hal]
      exact ih k (i + 1) i (by omega) (by omega) (by omega) (fun _ => hie) (by omega) (fun h => by omega) (fun j h1 h2 h3 => by omega)
    · rw [if_neg (by omega), if_pos (by omega), if_pos (by omega), if_pos (by omega), if_pos (by omega)]
      by_cases hx : rd l (i : Int) = rd l (f : Int)
      · rw [if_pos hx]
        refine ih k (i + 1) f (by omega) (by omega) (by omega) (fun h => by omega) (by omega) (fun _ => hn hil) (fun j h1 h2 h3 => ?_)
        by_cases hj : j = i
        · subst hj; exact hx
        · exact ha j h1 (by omega) h3
      · rw [if_neg hx, if_pos (by omega), ← hal]
        refine ih k (i + 1) i (by omega) (by omega) (by omega) (fun h => by omega) (by omega) (fun _ => .inr ?_) (fun j h1 h2 h3 => by rw [show j = i by omega])
        have := ha (i - 1) (by omega) (by omega) (by omega)
        rw [show ((i - 1 : Nat) : Int) = (i : Int) - 1 by omega] at this
        rw [this]
        exact fun e => hx e.symm
theorem refRuns_eq (l : List Int) (hl : l.length ≤ 1000000000) {k : Nat} (hk : l.length + 1 < k) : magnetoref01_Runs.f k l = some (runs l) := by
  unfold magnetoref01_Runs.f
  by_cases h : l.length = 0
  · obtain rfl := List.eq_nil_of_length_eq_zero h
    obtain ⟨k, rfl⟩ : ∃ m, k = m + 1 := ⟨k - 1, by omega⟩
    simp [magnetoref01_Runs.l0, runs_nil]
  · have := refRuns_l0 l hl l.length k 1 0 (by omega) (by omega) (by omega) (fun h => by omega) (by omega) (fun _ => .inl rfl) (fun j h1 h2 _ => by rw [show j = 0 by omega])
    simpa [runs_nil] using this
theorem bitsRuns_l0 (l : List Int) (hl : l.length ≤ 300) (d : Nat) : ∀ (k i : Nat) (m : Int), (runs l).length - i = d → i ≤ (runs l).length → d + 1000 < k → maxFrom m ((runs l).drop i) = longest l →
    magnetolaw01_BitsRuns.l0 k l (runs l) m (i : Int) = some true := by
  have hrl := runs_length l
  induction d with
  | zero =>
    intro k i m hd hi hk hm
    obtain ⟨k, rfl⟩ : ∃ m, k = m + 1 := ⟨k - 1, by omega⟩
    rw [List.drop_eq_nil_of_le (by omega)] at hm
    have hm' : longest l = m := hm.symm
    simp only [magnetolaw01_BitsRuns.l0]
    rw [if_neg (by omega), runs_eq l (by omega) (by omega)]
    simp only [Option.bind_some]
    rw [ints01_eq _ _ (by omega) _ (by omega)]
    simp only [Option.bind_some, decide_true]
    rw [if_pos trivial, longest_eq l (by omega) (by omega)]
    simp only [Option.bind_some]
    rw [if_pos hm', awake01 (by omega)]
    rfl
  | succ d ih =>
    intro k i m hd hi hk hm
    obtain ⟨k, rfl⟩ : ∃ m, k = m + 1 := ⟨k - 1, by omega⟩
    have hi' : i < (runs l).length := by omega
    rw [List.drop_eq_getElem_cons hi', maxFrom_cons, ← rd_at _ i hi'] at hm
    simp only [magnetolaw01_BitsRuns.l0]
    rw [if_pos (by omega), if_pos (by omega), wrap_in (x := (i : Int) + 1) (by omega) (by omega), show (i : Int) + 1 = ((i + 1 : Nat) : Int) from by omega]
    by_cases h : rd (runs l) (i : Int) > m
    · rw [if_pos h]
      refine ih k (i + 1) _ (by omega) (by omega) (by omega) ?_
      rw [← hm, mx_eq, show max m (rd (runs l) (i : Int)) = rd (runs l) (i : Int) by omega]
    · rw [if_neg h]
      refine ih k (i + 1) _ (by omega) (by omega) (by omega) ?_
      rw [← hm, mx_eq, show max m (rd (runs l) (i : Int)) = m by omega]
theorem BitsRuns : magnetolaw01_BitsRuns.Pure := by
  intro l _ _ _
  obtain ⟨k, hk⟩ : ∃ k : Nat, k = 3000 := ⟨_, rfl⟩
  refine ⟨k, ?_⟩
  have hrl := runs_length l
  unfold magnetolaw01_BitsRuns.f
  by_cases hl : (l.length : Int) > 300
  · rw [if_pos hl, awake01 (by omega)]
    rfl
  · rw [if_neg hl, refRuns_eq l (by omega) (by omega)]
    simp only [Option.bind_some]
    exact bitsRuns_l0 l (by omega) (runs l).length k 0 0 (by omega) (by omega) (by omega) rfl
end Go.Proofs.Ytclmogjmmcjppaa.Pure
