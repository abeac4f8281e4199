/- magnetolaw01.BitsTexts answers true for every text and every row: the levels that a text names, the text that a row has, and where either is wrong. Conditions: none. -/
import Derived.Test.YtclmogjmmcjppaaPAx4
import Derived.Test.YtclmogjmmcjppaaQRef01
import Derived.Test.YtclmogjmmcjppaaQAwake01
namespace Go.Proofs.Ytclmogjmmcjppaa.Pure
open Go.RowKit Go.Proofs.Ytclmogjmmcjppaa.PA Go.Proofs.YtclmogjmmcjppaaW.PrintWords Go.Proofs.YtclmogjmmcjppaaW.PrintLast Go.Proofs.YtclmogjmmcjppaaW.PrintMore

theorem parse_text (s : ByteArray) (h : isLv (levels s)) : digB (levels s) = s.toList := by
  rw [Lib.toList_data]
  unfold digB levels
  rw [List.map_map]
  conv => rhs; rw [← List.map_id s.data.toList]
  refine List.map_congr_left fun b hb => ?_
  have hx := h ((b.toNat : Int) - 48) (List.mem_map.2 ⟨b, hb, rfl⟩)
  simp only [Function.comp, id]
  rcases hx with hx | hx
  · rw [if_pos hx]
    exact UInt8.toNat_inj.1 (by rw [show b.toNat = 48 by omega]; rfl)
  · rw [if_neg (by omega)]
    exact UInt8.toNat_inj.1 (by rw [show b.toNat = 49 by omega]; rfl)
theorem bitsTexts_l0 (s : ByteArray) (hs : s.size ≤ 300) (m : List Int) (a e : Int) (hm : (m, a, e) = if chk (levels s) 0 < 0 then (levels s, 0, 0) else ([], chk (levels s) 0, 11)) (d : Nat) : ∀ (k i : Nat), s.size - i = d → i ≤ s.size → d + 1000 < k → chk ((levels s).drop i) i = chk (levels s) 0 →
    magnetolaw01_BitsTexts.l0 k s m a e (i : Int) = some true := by
  induction d with
  | zero =>
    intro k i hd hi hk hc
    obtain ⟨k, rfl⟩ : ∃ m, k = m + 1 := ⟨k - 1, by omega⟩
    rw [List.drop_eq_nil_of_le (by rw [levels_length]; omega), chk] at hc
    rw [← hc, if_pos (by omega)] at hm
    simp only [Prod.mk.injEq] at hm
    obtain ⟨rfl, rfl, rfl⟩ := hm
    have hlv : isLv (levels s) := (chk_iff _).1 (by omega)
    obtain ⟨t, ht, e⟩ := refText_lv hlv (by rw [levels_length]; omega) (k := k) (by rw [levels_length]; omega)
    simp only [magnetolaw01_BitsTexts.l0]
    rw [if_neg (by omega), refCheck_eq _ (by rw [levels_length]; omega) (by rw [levels_length]; omega), ← hc]
    simp only [Option.bind_some]
    rw [if_pos trivial, ht]
    simp only [Option.bind_some]
    rw [if_pos (by rw [e, parse_text s hlv]), if_pos trivial, if_pos trivial, awake01 (by omega)]
    rfl
  | succ d ih =>
    intro k i hd hi hk hc
    obtain ⟨k, rfl⟩ : ∃ m, k = m + 1 := ⟨k - 1, by omega⟩
    have hi' : i < s.size := by omega
    have hil : i < (levels s).length := by rw [levels_length]; exact hi'
    have eg : (levels s).getD i 0 = (levels s)[i] := by simp [List.getD_eq_getElem?_getD, List.getElem?_eq_getElem hil]
    rw [List.drop_eq_getElem_cons hil, chk, ← eg] at hc
    have hb := bt_levels s i hi'
    simp only [magnetolaw01_BitsTexts.l0]
    rw [if_pos (by omega), if_pos (by omega), wrap_in (by omega) (by omega), show (i : Int) + 1 = ((i + 1 : Nat) : Int) from by omega]
    by_cases h0 : bt s (i : Int) = 48
    · rw [if_pos h0]
      rw [if_pos (.inl (by omega))] at hc
      exact ih k (i + 1) (by omega) (by omega) (by omega) (by rw [← hc]; rfl)
    · rw [if_neg h0]
      by_cases h1 : bt s (i : Int) = 49
      · rw [if_pos h1]
        rw [if_pos (.inr (by omega))] at hc
        exact ih k (i + 1) (by omega) (by omega) (by omega) (by rw [← hc]; rfl)
      · rw [if_neg h1]
        rw [if_neg (by omega)] at hc
        rw [if_neg (by omega)] at hm
        simp only [Prod.mk.injEq] at hm
        obtain ⟨rfl, rfl, rfl⟩ := hm
        rw [if_pos (by simp), if_pos hc.symm, if_pos rfl, awake01 (by omega)]
        rfl
theorem bitsTexts_j1 (s : ByteArray) (hs : s.size ≤ 300) {k : Nat} (hk : 2000 < k) : magnetolaw01_BitsTexts.j1 k s = some true := by
  obtain ⟨k, rfl⟩ : ∃ m, k = m + 1 := ⟨k - 1, by omega⟩
  simp only [magnetolaw01_BitsTexts.j1]
  obtain ⟨m, a, e, hm⟩ : ∃ m a e, (m, a, e) = if chk (levels s) 0 < 0 then (levels s, (0 : Int), (0 : Int)) else ([], chk (levels s) 0, 11) := ⟨_, _, _, rfl⟩
  have hp : bits_Parse.f k s = some (m, a, e) := by
    rw [parse_eq s (by omega) (by omega), hm]
    split <;> rfl
  rw [hp]
  simp only [Option.bind_some]
  exact bitsTexts_l0 s hs m a e hm s.size k 0 (by omega) (by omega) (by omega) rfl
theorem BitsTexts : magnetolaw01_BitsTexts.Pure := by
  intro s l _ _ _ _
  refine ⟨3000, ?_⟩
  unfold magnetolaw01_BitsTexts.f
  have hj : ∀ b, b = true ∨ (s.size ≤ 300 ∧ l.length ≤ 300) → magnetolaw01_BitsTexts.j0 3000 s l b = some true := by
    intro b hb
    rw [show (3000 : Nat) = 2999 + 1 from rfl]
    simp only [magnetolaw01_BitsTexts.j0]
    by_cases h : b = true
    · rw [if_pos h, awake01 (by omega)]
      rfl
    · rw [if_neg h]
      obtain ⟨hs, hl⟩ := hb.resolve_left h
      rw [refCheck_eq l (by omega) (by omega)]
      simp only [Option.bind_some]
      by_cases hlv : isLv l
      · rw [text_lv hlv (by omega) (by omega), check_eq, chk_of_lv hlv]
        simp only [Option.bind_some]
        obtain ⟨t, ht, e⟩ := refText_lv hlv (by omega) (k := 2999) (by omega)
        rw [if_pos trivial, if_neg (by omega), ht]
        simp only [Option.bind_some]
        rw [if_pos (by rw [e, textB_list hlv]), if_pos trivial, if_pos trivial]
        exact bitsTexts_j1 s hs (by omega)
      · rw [text_no hlv, check_eq]
        simp only [Option.bind_some]
        have := chk_ge hlv
        rw [if_pos trivial, if_pos (by omega), if_pos (by rw [Lib.toList_data]), if_pos trivial, if_pos trivial]
        exact bitsTexts_j1 s hs (by omega)
  by_cases hs : (s.size : Int) > 300
  · rw [if_pos hs]
    exact hj true (.inl rfl)
  · rw [if_neg hs]
    by_cases hl : (l.length : Int) > 300
    · rw [decide_eq_true hl]
      exact hj true (.inl rfl)
    · rw [decide_eq_false hl]
      exact hj false (.inr ⟨by omega, by omega⟩)
end Go.Proofs.Ytclmogjmmcjppaa.Pure
