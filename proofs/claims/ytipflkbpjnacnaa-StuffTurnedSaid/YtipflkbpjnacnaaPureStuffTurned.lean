/- magnetolaw05.StuffTurned answers true for every row, turned places and number: of turned stuffed levels nothing is taken, or another row. Conditions: none. -/
import Derived.Test.YtipflkbpjnacnaaPAx19
import Derived.Test.YtipflkbpjnacnaaQStuff
import Derived.Test.YtipflkbpjnacnaaQAwake05
import Derived.Test.YtipflkbpjnacnaaQInts05
namespace Go.Proofs.Ytipflkbpjnacnaa.Pure
open Go.RowKit Go.Proofs.Ytipflkbpjnacnaa.PA Go.Proofs.YtipflkbpjnacnaaW.PrintWords Go.Proofs.YtipflkbpjnacnaaW.PrintLast Go.Proofs.YtipflkbpjnacnaaW.PrintMore

theorem norm_idx (x : Int) (n : Nat) (h0 : 0 < n) (h1 : n ≤ 1000000000) : ∃ F : Nat, F < n ∧ Int.tmod (wrap64 ((Int.tmod x (n : Int)) + (n : Int))) (n : Int) = (F : Int) := by
  have h2 := Int.tmod_lt_of_pos x (show (0 : Int) < (n : Int) by omega)
  have h3 := Int.lt_tmod_of_pos x (show (0 : Int) < (n : Int) by omega)
  rw [wrap_in (by omega) (by omega), Int.tmod_eq_emod_of_nonneg (a := x.tmod _ + _) (by omega)]
  have h4 := Int.emod_nonneg (x.tmod (n : Int) + (n : Int)) (show (n : Int) ≠ 0 by omega)
  have h5 := Int.emod_lt_of_pos (x.tmod (n : Int) + (n : Int)) (show 0 < (n : Int) by omega)
  obtain ⟨F, hF⟩ := Int.eq_ofNat_of_zero_le h4
  rw [hF] at h5 ⊢
  exact ⟨F, by omega, rfl⟩
theorem set_lv {l : List Int} (h : isLv l) (i : Nat) {x : Int} (hx : x = 0 ∨ x = 1) : isLv (l.set i x) := by
  intro y hy
  rcases List.mem_or_eq_of_mem_set hy with h1 | h1
  · exact h y h1
  · rw [h1]; exact hx
section
variable (l : List Int) (hv : isLv l) (hl : l.length ≤ 300) (out : Int) (hs0 : 0 < (stuffed l).length)
include hv hl hs0
theorem turned_j2 : ∀ k, 1000 < k → magnetolaw05_StuffTurned.j2 k l out (stuffed l) false = some true := by
  intro k hk
  obtain ⟨k, rfl⟩ : ∃ m, k = m + 1 := ⟨k - 1, by omega⟩
  have hsl := stuffed_length l
  have hsv := stuffed_lv hv
  simp only [magnetolaw05_StuffTurned.j2]
  obtain ⟨F, hF, eF⟩ := norm_idx out (stuffed l).length hs0 (by omega)
  rw [if_neg (by simp), if_neg (by omega), eF, wrap_in (x := (F : Int) + 1) (by omega) (by omega)]
  simp only [Option.bind_some, List.nil_append]
  rw [if_pos (by omega), if_pos (by omega), if_pos (by rw [List.length_take]; simp; omega), if_pos (by omega), if_pos (by omega), if_pos (by rw [List.length_take, List.length_drop]; omega), Int.toNat_natCast, show ((F : Int) + 1).toNat = F + 1 by omega]
  have huv : isLv ((stuffed l).take F ++ (stuffed l).drop (F + 1)) := isLv_append.2 ⟨isLv_take hsv _, isLv_drop hsv _⟩
  have hul : ((stuffed l).take F ++ (stuffed l).drop (F + 1)).length + 1 = (stuffed l).length := by
    rw [List.length_append, List.length_take, List.length_drop]; omega
  rw [take_eq _ (by omega) (by omega)]
  simp only [Option.bind_some]
  unfold takeAll
  rw [if_pos huv]
  cases h : takeR ((stuffed l).take F ++ (stuffed l).drop (F + 1)) with
  | mk a ie =>
  obtain ⟨i, e⟩ := ie
  simp only
  by_cases he : e = 0
  · subst he
    obtain ⟨h1, h2, h3, h4⟩ := takeR_ok huv h
    rw [if_pos rfl, ints05_eq _ _ (by omega) _ (by omega)]
    simp only [Option.bind_some]
    have hne : ¬ (a = l) := by
      rintro rfl
      have := congrArg List.length h1
      omega
    rw [decide_eq_false hne, if_neg (by simp), awake05 (by omega)]
    rfl
  · rw [if_neg he, awake05 (by omega)]
    rfl
theorem turned_end (W : List Int) (hW : isLv W) (hWl : W.length = (stuffed l).length) (k : Nat) (hk : 1500 < k) :
    ((stuff_Take.f k W).bind fun bt731 => (if bt731.2.2 = 0 then ((magnetolaw05_ints.f k bt731.1 l).bind fun t736 => ((magnetolaw05_ints.f k W (stuffed l)).bind fun t737 => (if (t736 != t737) = true then (none) else (magnetolaw05_StuffTurned.j2 k l out (stuffed l) false)))) else (if bt731.2.1 < 0 then (none) else (if bt731.2.1 > (W.length : Int) then (none) else (if (bt731.1.length : Int) = 0 then ((magnetolaw05_ints.f k W (stuffed l)).bind fun t738 => (magnetolaw05_StuffTurned.j2 k l out (stuffed l) t738)) else (none)))))) = some true := by
  have hsl := stuffed_length l
  have hj := turned_j2 l hv hl out hs0 k (by omega)
  rw [take_eq _ (by omega) (by omega)]
  simp only [Option.bind_some]
  unfold takeAll
  rw [if_pos hW]
  cases h : takeR W with
  | mk a ie =>
  obtain ⟨i, e⟩ := ie
  simp only
  by_cases he : e = 0
  · subst he
    obtain ⟨h1, h2, h3, h4⟩ := takeR_ok hW h
    rw [if_pos rfl, ints05_eq _ _ (by omega) _ (by omega), ints05_eq _ _ (by omega) _ (by omega)]
    simp only [Option.bind_some]
    have : decide (a = l) = decide (W = stuffed l) := by
      rw [decide_eq_decide]
      constructor
      · rintro rfl
        exact h1.symm
      · intro hh
        rw [hh, takeR_add] at h
        simp only [Prod.mk.injEq] at h
        exact h.1.symm
    rw [this, if_neg (by simp)]
    exact hj
  · obtain ⟨h1, h2, h3⟩ := takeR_err h he
    subst h1
    have hne : ¬ (W = stuffed l) := by
      intro hh
      rw [hh, takeR_add] at h
      simp only [Prod.mk.injEq] at h
      exact he h.2.2.symm
    rw [if_neg he, if_neg (by omega), if_neg (by omega), if_pos (by simp), ints05_eq _ _ (by omega) _ (by omega)]
    simp only [Option.bind_some]
    rw [decide_eq_false hne]
    exact hj
theorem turned_l0 (m : List Int) (hm : m.length ≤ 10) (d : Nat) : ∀ (k i : Nat) (W : List Int), m.length - i = d → i ≤ m.length → 1600 + d < k → isLv W → W.length = (stuffed l).length →
    magnetolaw05_StuffTurned.l0 k l m out (stuffed l) W (i : Int) = some true := by
  have hsl := stuffed_length l
  induction d with
  | zero =>
    intro k i W hd hi hk hW hWl
    obtain ⟨k, rfl⟩ : ∃ m, k = m + 1 := ⟨k - 1, by omega⟩
    simp only [magnetolaw05_StuffTurned.l0]
    rw [if_neg (by omega)]
    exact turned_end l hv hl out hs0 W hW hWl k (by omega)
  | succ d ih =>
    intro k i W hd hi hk hW hWl
    obtain ⟨k, rfl⟩ : ∃ m, k = m + 1 := ⟨k - 1, by omega⟩
    simp only [magnetolaw05_StuffTurned.l0]
    obtain ⟨F, hF, eF⟩ := norm_idx (rd m (i : Int)) (stuffed l).length hs0 (by omega)
    have hx := rd_lv hW F (by omega)
    rw [if_pos (by omega), if_pos (by omega), if_neg (by omega), eF, if_pos (by omega), if_pos (by omega), Int.toNat_natCast, wrap_in (x := 1 - rd W (F : Int)) (by omega) (by omega), wrap_in (x := (i : Int) + 1) (by omega) (by omega), show (i : Int) + 1 = ((i + 1 : Nat) : Int) by omega]
    exact ih k (i + 1) _ (by omega) (by omega) (by omega) (set_lv hW F (by omega)) (by rw [List.length_set, hWl])
end
theorem StuffTurned : magnetolaw05_StuffTurned.Pure := by
  intro l m out _ _ _ _ _ _ _
  obtain ⟨k, hk⟩ : ∃ k : Nat, k = 3000 := ⟨_, rfl⟩
  refine ⟨k, ?_⟩
  obtain ⟨k, rfl⟩ : ∃ m, k = m + 1 := ⟨k - 1, by omega⟩
  have hout : magnetolaw05_StuffTurned.j0 (k + 1) l m out true = some true := by
    simp only [magnetolaw05_StuffTurned.j0]
    rw [if_pos trivial, awake05 (by omega)]
    rfl
  unfold magnetolaw05_StuffTurned.f
  by_cases hl : (l.length : Int) > 300
  · rw [if_pos hl]
    exact hout
  rw [if_neg hl]
  by_cases hm : (m.length : Int) > 10
  · rw [if_pos hm]
    exact hout
  rw [if_neg hm, check_eq]
  simp only [Option.bind_some]
  by_cases hv : isLv l
  · have hsl := stuffed_length l
    rw [chk_of_lv hv, decide_eq_false (by omega)]
    simp only [magnetolaw05_StuffTurned.j0]
    rw [if_neg (by simp), add_lv hv (by omega)]
    simp only [Option.bind_some, List.nil_append]
    rw [if_neg (by omega)]
    by_cases h0 : ((stuffed l).length : Int) = 0
    · rw [if_pos h0, awake05 (by omega)]
      rfl
    · rw [if_neg h0, if_pos (by simp; omega)]
      exact turned_l0 l hv (by omega) out (by omega) m (by omega) m.length k 0 _ (by omega) (by omega) (by omega) (stuffed_lv hv) rfl
  · rw [decide_eq_true (chk_ge hv).1]
    exact hout
end Go.Proofs.Ytipflkbpjnacnaa.Pure
