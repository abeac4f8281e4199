/- magnetolaw01.BitsBack answers true for every row, text and number: rows are written and read as they were, texts too, and numbers are told by their bits. Conditions: none. -/
import Derived.Test.YtclmogjmmcjppaaPAx6
import Derived.Test.YtclmogjmmcjppaaQBits
import Derived.Test.YtclmogjmmcjppaaQAwake01
import Derived.Test.YtclmogjmmcjppaaQInts01
namespace Go.Proofs.Ytclmogjmmcjppaa.Pure
open Go.RowKit Go.Proofs.Ytclmogjmmcjppaa.PA Go.Proofs.YtclmogjmmcjppaaW.PrintWords Go.Proofs.YtclmogjmmcjppaaW.PrintLast Go.Proofs.YtclmogjmmcjppaaW.PrintMore

theorem levels_textB {l : List Int} (h : isLv l) : levels (textB l) = l := by
  unfold levels textB strOfNums
  rw [List.map_map]
  conv => rhs; rw [← List.map_id l]
  rw [List.map_map]
  refine List.map_congr_left fun x hx => ?_
  rcases h x hx with rfl | rfl <;> rfl
theorem textB_levels {s : ByteArray} (h : isLv (levels s)) : (textB (levels s)).toList = s.toList := by
  rw [Lib.toList_data, Lib.toList_data]
  unfold levels textB strOfNums
  simp only [List.map_map]
  conv => rhs; rw [← List.map_id s.data.toList]
  refine List.map_congr_left fun b hb => ?_
  have hx := h ((b.toNat : Int) - 48) (List.mem_map.2 ⟨b, hb, rfl⟩)
  simp only [Function.comp, id]
  rw [show (48 + ((b.toNat : Int) - 48)).toNat = b.toNat by omega]
  simp
theorem textB_size (l : List Int) : (textB l).size = l.length := by unfold textB; rw [strOfNums_size, List.length_map]

theorem bitsBack_j4 (l : List Int) (h : isLv l) (hl : l.length ≤ 64) (b : Bool) (hb : b = true ∨ l.length < 64) {k : Nat} (hk : 1000 < k) :
    magnetolaw01_BitsBack.j4 k l (valI l) l 0 b = some true := by
  obtain ⟨k, rfl⟩ : ∃ m, k = m + 1 := ⟨k - 1, by omega⟩
  simp only [magnetolaw01_BitsBack.j4]
  by_cases hbt : b = true
  · rw [if_pos hbt, if_pos trivial, ints01_eq _ _ (by omega) _ (by omega)]
    simp only [Option.bind_some, decide_true]
    rw [if_pos trivial, awake01 (by omega)]
    rfl
  · rw [if_neg hbt]
    have hl' := hb.resolve_left hbt
    have h2 : isLv ([0] ++ l) := isLv_append.2 ⟨by decide, h⟩
    simp only [Option.bind_some]
    rw [if_pos (by simp; omega), value_lv h2 (by simp; omega) (by simp; omega)]
    simp only [Option.bind_some]
    rw [if_pos trivial, if_pos (by rw [valI_append]; simp [valI]), awake01 (by omega)]
    rfl
theorem bitsBack_l0 (l : List Int) (hl : l.length ≤ 300) (n : Int) (h0 : 0 ≤ n) (h1 : n < 18446744073709551616) (d : Nat) : ∀ (k w : Nat), 65 - w = d → w ≤ 65 → d + 2000 < k →
    magnetolaw01_BitsBack.l0 k l n (w : Int) = some true := by
  induction d with
  | zero =>
    intro k w hd hw hk
    obtain ⟨k, rfl⟩ : ∃ m, k = m + 1 := ⟨k - 1, by omega⟩
    simp only [magnetolaw01_BitsBack.l0]
    rw [if_neg (by omega)]
    by_cases h64 : 64 < l.length
    · rw [value_long h64]
      simp only [Option.bind_some]
      rw [if_neg (by omega), if_pos (by omega), awake01 (by omega)]
      rfl
    · by_cases hlv : isLv l
      · have hb := valI_bounds hlv
        have hp := pow_le (show l.length ≤ 64 by omega)
        rw [pow64] at hp
        rw [value_lv hlv (by omega) (by omega)]
        simp only [Option.bind_some]
        rw [if_pos trivial, of_yes _ _ hb.1 (by omega) (by omega) (by omega)]
        simp only [Option.bind_some]
        rw [if_pos trivial, ofI_valI hlv, ints01_eq _ _ (by omega) _ (by omega)]
        simp only [Option.bind_some, decide_true]
        rw [if_pos trivial]
        exact bitsBack_j4 l hlv (by omega) _ (by simp; omega) (by omega)
      · rw [value_no hlv (by omega)]
        simp only [Option.bind_some]
        rw [if_neg (by omega), if_neg (by omega), check_eq]
        simp only [Option.bind_some]
        rw [if_pos (by have := chk_ge hlv; omega), awake01 (by omega)]
        rfl
  | succ d ih =>
    intro k w hd hw hk
    obtain ⟨k, rfl⟩ : ∃ m, k = m + 1 := ⟨k - 1, by omega⟩
    have hl2 : (ofI n w).length = w := ofI_length w n
    simp only [magnetolaw01_BitsBack.l0]
    rw [if_pos (by omega), of_yes n w h0 h1 (by omega) (by omega)]
    simp only [Option.bind_some]
    rw [value_lv (ofI_lv w n) (by omega) (by omega)]
    simp only [Option.bind_some]
    rw [if_pos trivial, if_pos trivial, if_pos (by omega), wrap_in (by omega) (by omega), show (w : Int) + 1 = ((w + 1 : Nat) : Int) from by omega, ih k (w + 1) (by omega) (by omega) (by omega), valI_ofI]
    by_cases hw64 : w < 64
    · have hp := pow_pos w
      rw [if_pos (by omega), if_pos (by omega), shl_one hw64, if_neg (by omega), if_pos (Int.tmod_eq_emod_of_nonneg h0).symm, if_neg (by omega)]
    · have : w = 64 := by omega
      subst this
      rw [if_neg (by omega), if_pos (by omega), if_pos (by rw [pow64]; omega)]
theorem bitsBack_j1 (l : List Int) (hl : l.length ≤ 300) (s : ByteArray) (hs : s.size ≤ 300) (n : Int) (h0 : 0 ≤ n) (h1 : n < 18446744073709551616) {k : Nat} (hk : 2500 < k) :
    magnetolaw01_BitsBack.j1 k l s n = some true := by
  obtain ⟨k, rfl⟩ : ∃ m, k = m + 1 := ⟨k - 1, by omega⟩
  have hj2 : magnetolaw01_BitsBack.j2 k l n = some true := by
    obtain ⟨k, rfl⟩ : ∃ m, k = m + 1 := ⟨k - 1, by omega⟩
    simp only [magnetolaw01_BitsBack.j2]
    exact bitsBack_l0 l hl n h0 h1 65 k 0 (by omega) (by omega) (by omega)
  simp only [magnetolaw01_BitsBack.j1]
  rw [parse_eq s (by omega) (by omega)]
  by_cases hlv : isLv (levels s)
  · rw [if_pos ((chk_iff _).2 hlv)]
    simp only [Option.bind_some]
    rw [if_pos trivial, text_lv hlv (by rw [levels_length]; omega) (by rw [levels_length]; omega)]
    simp only [Option.bind_some]
    rw [if_pos trivial, if_pos (textB_levels hlv)]
    exact hj2
  · have := chk_ge hlv
    rw [if_neg (by omega)]
    simp only [Option.bind_some]
    rw [if_neg (by omega)]
    exact hj2
theorem BitsBack : magnetolaw01_BitsBack.Pure := by
  intro l s n _ _ _ _ hn
  refine ⟨3000, ?_⟩
  have hr := u64_range hn
  unfold magnetolaw01_BitsBack.f
  have hj : ∀ b, b = true ∨ (s.size ≤ 300 ∧ l.length ≤ 300) → magnetolaw01_BitsBack.j0 3000 l s n b = some true := by
    intro b hb
    rw [show (3000 : Nat) = 2999 + 1 from rfl]
    simp only [magnetolaw01_BitsBack.j0]
    by_cases h : b = true
    · rw [if_pos h, awake01 (by omega)]
      rfl
    · rw [if_neg h]
      obtain ⟨hs, hl⟩ := hb.resolve_left h
      by_cases hlv : isLv l
      · rw [text_lv hlv (by omega) (by omega)]
        simp only [Option.bind_some]
        rw [if_pos trivial, parse_eq _ (by rw [textB_size]; omega) (by rw [textB_size]; omega), levels_textB hlv, if_pos ((chk_iff _).2 hlv)]
        simp only [Option.bind_some]
        rw [if_pos trivial, ints01_eq _ _ (by omega) _ (by omega)]
        simp only [Option.bind_some, decide_true]
        rw [if_pos trivial, if_pos (by rw [textB_size])]
        exact bitsBack_j1 l hl s hs n hr.1 hr.2 (by omega)
      · rw [text_no hlv, check_eq]
        simp only [Option.bind_some]
        have := chk_ge hlv
        rw [if_neg (by omega), if_neg (by omega)]
        exact bitsBack_j1 l hl s hs n hr.1 hr.2 (by omega)
  by_cases hl : (l.length : Int) > 300
  · rw [if_pos hl]
    exact hj true (.inl rfl)
  · rw [if_neg hl]
    by_cases hs : (s.size : Int) > 300
    · rw [decide_eq_true hs]
      exact hj true (.inl rfl)
    · rw [decide_eq_false hs]
      exact hj false (.inr ⟨by omega, by omega⟩)
end Go.Proofs.Ytclmogjmmcjppaa.Pure
