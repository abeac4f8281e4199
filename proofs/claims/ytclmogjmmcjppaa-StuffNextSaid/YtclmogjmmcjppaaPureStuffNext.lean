/- magnetolaw05.StuffNext answers true for every row: each level of the stuffed row is the one that is next, or the row's own, in its order. Conditions: none. -/
import Derived.Test.YtclmogjmmcjppaaPAx26
import Derived.Test.YtclmogjmmcjppaaQStuff
import Derived.Test.YtclmogjmmcjppaaQAwake05
namespace Go.Proofs.Ytclmogjmmcjppaa.Pure
open Go.RowKit Go.Proofs.Ytclmogjmmcjppaa.PA Go.Proofs.YtclmogjmmcjppaaW.PrintWords Go.Proofs.YtclmogjmmcjppaaW.PrintLast Go.Proofs.YtclmogjmmcjppaaW.PrintMore

theorem next_l0 (l : List Int) (hv : isLv l) (hl : l.length ≤ 300) (d : Nat) : ∀ (k i : Nat) (o : List Int), (stuffed l).length - i = d → i ≤ (stuffed l).length → 100 + d < k → takeSt ((stuffed l).take i) = .ok ((stuffed l).take i, o) → o <+: l →
    magnetolaw05_StuffNext.l0 k l (stuffed l) (o.length : Int) (i : Int) = some true := by
  have hsl := stuffed_length l
  have hsv := stuffed_lv hv
  induction d with
  | zero =>
    intro k i o hd hi hk ho hp
    obtain ⟨k, rfl⟩ : ∃ m, k = m + 1 := ⟨k - 1, by omega⟩
    rw [List.take_of_length_le (by omega), takeSt_add] at ho
    simp only [Except.ok.injEq, Prod.mk.injEq, true_and] at ho
    subst ho
    have ht := stuffed_tail l
    simp only [magnetolaw05_StuffNext.l0]
    rw [if_neg (by omega), next_eq _ (by omega) (by omega)]
    simp only [Option.bind_some]
    rw [nextF_no (fun h => by have := h.2; omega)]
    simp only
    rw [if_pos trivial, if_neg (by simp), awake05 (by omega)]
    rfl
  | succ d ih =>
    intro k i o hd hi hk ho hp
    obtain ⟨k, rfl⟩ : ∃ m, k = m + 1 := ⟨k - 1, by omega⟩
    have hi' : i < (stuffed l).length := by omega
    have htl : ((stuffed l).take i).length = i := by rw [List.length_take]; omega
    obtain ⟨_, hol, _⟩ := takeSt_ok _ _ _ ho
    have hple := hp.length_le
    have hs : takeSt ((stuffed l).take (i + 1)) = takeS (.ok ((stuffed l).take i, o)) (rd (stuffed l) (i : Int)) := by rw [take_snoc_rd _ i hi', takeSt_snoc, ho]
    -- it is taken so on the way to the whole
    have hall : ∃ u, takeSt ((stuffed l).take (i + 1)) = .ok ((stuffed l).take (i + 1), u) ∧ u <+: l := by
      have h := takeSt_add (l := l)
      have e := List.take_append_drop (i + 1) (stuffed l)
      have := takeSt_app ((stuffed l).take (i + 1)) ((stuffed l).drop (i + 1)) l (by rw [e]; exact h)
      exact this
    obtain ⟨u, hu, hup⟩ := hall
    rw [hu] at hs
    simp only [magnetolaw05_StuffNext.l0]
    rw [if_pos (by omega), if_pos (by omega), if_pos (by omega), Int.toNat_natCast, next_eq _ (by omega) (by omega), wrap_in (x := (i : Int) + 1) (by omega) (by omega), show (i : Int) + 1 = ((i + 1 : Nat) : Int) by omega]
    simp only [Option.bind_some]
    unfold takeS at hs
    simp only at hs
    have hx := rd_lv hsv i hi'
    by_cases h5 : 5 ≤ tailRun ((stuffed l).take i)
    · have hle := tailRun_le ((stuffed l).take i)
      have hlast := rd_last ((stuffed l).take i) (by omega)
      rw [if_pos h5, hlast] at hs
      have hy : rd ((stuffed l).take i) ((((stuffed l).take i).length : Int) - 1) = 0 ∨ rd ((stuffed l).take i) ((((stuffed l).take i).length : Int) - 1) = 1 := by
        have := rd_lv (isLv_take hsv i) (((stuffed l).take i).length - 1) (by omega)
        rwa [show ((((stuffed l).take i).length - 1 : Nat) : Int) = (((stuffed l).take i).length : Int) - 1 by omega] at this
      rw [nextF_yes ⟨isLv_take hsv i, h5⟩]
      simp only
      rw [if_pos trivial]
      by_cases hxy : some (rd ((stuffed l).take i) ((((stuffed l).take i).length : Int) - 1)) = some (rd (stuffed l) (i : Int))
      · rw [if_pos hxy] at hs
        simp at hs
      · rw [if_neg hxy] at hs
        simp only [Except.ok.injEq, Prod.mk.injEq] at hs
        obtain ⟨_, rfl⟩ := hs
        simp only [Option.some.injEq] at hxy
        rw [if_pos (by omega)]
        exact ih k (i + 1) u (by omega) (by omega) (by omega) hu hup
    · rw [if_neg h5] at hs
      simp only [Except.ok.injEq, Prod.mk.injEq] at hs
      obtain ⟨_, rfl⟩ := hs
      have hul := hup.length_le
      rw [List.length_append, List.length_singleton] at hul
      have hrd : rd l (o.length : Int) = rd (stuffed l) (i : Int) := by
        obtain ⟨w, hw⟩ := hup
        have e : l = o ++ ([rd (stuffed l) (i : Int)] ++ w) := by rw [← List.append_assoc]; exact hw.symm
        have := rd_five o ([rd (stuffed l) (i : Int)] ++ w) (o.length : Int) 0 (by omega)
        rw [← e] at this
        rw [this]
        simp
      have hn := ih k (i + 1) _ (by omega) (by omega) (by omega) hu hup
      rw [List.length_append, List.length_singleton] at hn
      rw [nextF_no (fun h => h5 h.2)]
      simp only
      rw [if_neg (by simp), if_neg (by omega), if_pos (by omega), if_pos (by omega), if_pos hrd.symm, wrap_in (by omega) (by omega), show (o.length : Int) + 1 = ((o.length + 1 : Nat) : Int) by omega]
      exact hn
theorem StuffNext : magnetolaw05_StuffNext.Pure := by
  intro l _ _ _
  obtain ⟨k, hk⟩ : ∃ k : Nat, k = 3000 := ⟨_, rfl⟩
  refine ⟨k, ?_⟩
  unfold magnetolaw05_StuffNext.f
  by_cases hl : (l.length : Int) > 300
  · rw [if_pos hl, awake05 (by omega)]
    rfl
  rw [if_neg hl, check_eq]
  simp only [Option.bind_some]
  by_cases hv : isLv l
  · have hsl := stuffed_length l
    rw [chk_of_lv hv, if_neg (by omega), add_lv hv (by omega)]
    simp only [Option.bind_some]
    exact next_l0 l hv (by omega) _ k 0 [] rfl (by omega) (by omega) rfl (List.nil_prefix)
  · rw [if_pos (chk_ge hv).1, next_eq l (by omega) (by omega)]
    simp only [Option.bind_some]
    rw [nextF_no (fun h => hv h.1)]
    simp only
    rw [if_neg (by simp), if_pos trivial, awake05 (by omega)]
    rfl
end Go.Proofs.Ytclmogjmmcjppaa.Pure
