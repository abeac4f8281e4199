/- magnetolaw02.Crc15Turns answers true for every row, place and 15 bools: levels of which up to 15 side by side were turned have another sum. Conditions: none. -/
import Derived.Test.YtipflkbpjnacnaaRCrc15Turns
import Derived.Test.YtipflkbpjnacnaaQBurst
import Derived.Test.YtipflkbpjnacnaaQAwakeN02
import Derived.Test.YtipflkbpjnacnaaQRange
namespace Go.Proofs.Ytipflkbpjnacnaa.Pure
open Go.RowKit Go.Proofs.Ytipflkbpjnacnaa.PA Go.Proofs.YtipflkbpjnacnaaW.PrintWords Go.Proofs.YtipflkbpjnacnaaW.PrintLast Go.Proofs.YtipflkbpjnacnaaW.PrintMore

theorem flip_xor {x : Int} (hx : x = 0 ∨ x = 1) (b : Bool) : Go.bits .xor .i64 x (if b = true then 1 else 0) = if b = true then 1 - x else x := by
  cases b <;> rcases hx with rfl | rfl <;> decide
/-- The sum of turned levels. -/
theorem turned_sum (w e : List Int) (hw : isLv w) (he : isLv e) (hl : w.length = e.length) (W : List Int) (hWl : W.length = w.length)
    (hW : ∀ p, p < w.length → W.getD p 0 = if e.getD p 0 = 1 then 1 - w.getD p 0 else w.getD p 0) : isLv W ∧ crcN W = crcN w ^^^ crcN e := by
  have hv : isLv W := by
    intro x hx
    obtain ⟨p, hp, rfl⟩ := List.getElem_of_mem hx
    have h1 := hW p (by omega)
    rw [List.getD_eq_getElem?_getD, List.getElem?_eq_getElem hp, Option.getD_some] at h1
    rw [h1]
    have h2 := isLv_get hw p (by omega)
    split <;> omega
  refine ⟨hv, ?_⟩
  have hn : nats W = List.zipWith (· ^^^ ·) (nats w) (nats e) := by
    apply List.ext_getElem (by rw [List.length_zipWith, nats_length, nats_length, nats_length]; omega)
    intro p h1 h2
    rw [nats_length] at h1
    rw [List.getElem_zipWith]
    simp only [nats, List.getElem_map]
    have h3 := hW p (by omega)
    have h4 := isLv_get hw p (by omega)
    have h5 := isLv_get he p (by omega)
    rw [List.getD_eq_getElem?_getD, List.getElem?_eq_getElem (by omega), Option.getD_some] at h3 h4 h5
    rw [List.getD_eq_getElem?_getD, List.getElem?_eq_getElem (show p < e.length by omega), Option.getD_some, List.getD_eq_getElem?_getD, List.getElem?_eq_getElem (show p < w.length by omega), Option.getD_some] at h3
    rw [h3]
    rcases h4 with h4 | h4 <;> rcases h5 with h5 | h5 <;> rw [h4, h5] <;> decide
  unfold crcN
  rw [hn]
  have := sumN_xor (nats w) (nats e) 0 0 (by rw [nats_length, nats_length, hl])
  rwa [Nat.xor_self] at this
/-- Is one of the first i turned, ahead of a place? -/
def hit (bs : List Bool) (F i m : Nat) : Prop := ∃ j, j < i ∧ j < 15 ∧ F + j < m ∧ bs.getD j false = true
theorem hit_none (bs : List Bool) (F m : Nat) : ¬ hit bs F 0 m := fun ⟨j, h, _⟩ => by omega
theorem hit_yes {bs : List Bool} {F i m : Nat} (h1 : i < 15) (h2 : F + i < m) (h3 : bs.getD i false = true) : hit bs F (i + 1) m := ⟨i, by omega, h1, h2, h3⟩
theorem hit_more {bs : List Bool} {F i m : Nat} (h : hit bs F i m) : hit bs F (i + 1) m := by
  obtain ⟨j, h1, h2⟩ := h
  exact ⟨j, by omega, h2⟩
theorem hit_less {bs : List Bool} {F i m : Nat} (h : hit bs F (i + 1) m) (hn : ¬ (F + i < m ∧ bs.getD i false = true)) : hit bs F i m := by
  obtain ⟨j, h1, h2, h3, h4⟩ := h
  by_cases hji : j = i
  · subst hji
    exact absurd ⟨h3, h4⟩ hn
  · exact ⟨j, by omega, h2, h3, h4⟩
theorem xor_zero_iff (a b : Nat) : a ^^^ b = a ↔ b = 0 := by
  constructor
  · intro h
    have : a ^^^ b ^^^ a = a ^^^ a := by rw [h]
    rw [Nat.xor_self, Nat.xor_comm a b, Nat.xor_assoc, Nat.xor_self, Nat.xor_zero] at this
    exact this
  · rintro rfl
    exact Nat.xor_zero a

section
variable (l : List Int) (hv : isLv l) (hl : l.length ≤ 300) (F : Nat)
  (b0 b1 b2 b3 b4 b5 b6 b7 b8 b9 b10 b11 b12 b13 b14 : Bool)

/-- The levels, their sum's behind them. -/
def wOf (l : List Int) : List Int := l ++ ofI ((crcN l : Nat) : Int) 15
theorem wOf_length : (wOf l).length = l.length + 15 := by unfold wOf; rw [List.length_append, ofI_length]
include hv hl in
theorem turns_end (bs : List Bool) (hbs : bs.length = 15) (k : Nat) (hk : 1000 < k) (W : List Int) (i : Nat) (hi : 15 ≤ i ∨ l.length + 15 ≤ F + i) (t a : Bool) (hWl : W.length = l.length + 15)
    (hW : ∀ p, p < l.length + 15 → W.getD p 0 = if F ≤ p ∧ p < F + i ∧ bs.getD (p - F) false = true then 1 - (wOf l).getD p 0 else (wOf l).getD p 0)
    (ht : t = true ↔ hit bs F i (l.length + 15)) (ha : a = true ↔ hit bs F i l.length) :
    ((crc15_Right.f k W).bind fun t157 => (if (t157 == t) = true then (none) else (if (W.length : Int) < (l.length : Int) then (none) else (if 0 ≤ (l.length : Int) then (if (l.length : Int) ≤ (W.length : Int) then ((crc15_Sum.f (W.take ((l.length : Int) : Int).toNat)).bind fun bt162 => (if bt162.2 = 0 then (if ((bt162.1 != ((crcN l : Nat) : Int)) == a) = true then ((magnetolaw02_awake.f).bind fun t164 => (some t164)) else (none)) else (none))) else (none)) else (none))))) = some true := by
  have hwl := wOf_length l
  have hwv : isLv (wOf l) := isLv_append.2 ⟨hv, ofI_lv 15 _⟩
  have hb15 : ∀ j, 15 ≤ j → bs.getD j false = false := fun j hj => by rw [List.getD_eq_getElem?_getD, List.getElem?_eq_none (by omega)]; rfl
  have hWe : ∀ p, p < (wOf l).length → W.getD p 0 = if (errs bs F (l.length + 15)).getD p 0 = 1 then 1 - (wOf l).getD p 0 else (wOf l).getD p 0 := by
    intro p hp
    rw [hW p (by omega), errs_get bs F _ p (by omega)]
    by_cases h : F ≤ p ∧ bs.getD (p - F) false = true
    · have h2 : p - F < 15 := by
        by_cases h3 : p - F < 15
        · exact h3
        · have := hb15 (p - F) (by omega)
          rw [this] at h
          simp at h
      rw [if_pos h, if_pos rfl, if_pos ⟨h.1, by omega, h.2⟩]
    · have h' : ¬ (F ≤ p ∧ p < F + i ∧ bs.getD (p - F) false = true) := fun g => h ⟨g.1, g.2.2⟩
      rw [if_neg h, if_neg h', if_neg (by omega)]
  obtain ⟨hWv, hWs⟩ := turned_sum (wOf l) (errs bs F (l.length + 15)) hwv (errs_lv bs F _) (by rw [errs_length, hwl]) W (by omega) hWe
  have hz : crcN (wOf l) = 0 := by
    unfold wOf
    rw [crcN_append_bits]
    exact sum_self (crcN_lt l)
  rw [hz, Nat.zero_xor] at hWs
  -- what stands ahead of the sum's own levels
  have hTl : (W.take l.length).length = l.length := by rw [List.length_take]; omega
  have hTe : ∀ p, p < l.length → (W.take l.length).getD p 0 = if (errs bs F l.length).getD p 0 = 1 then 1 - l.getD p 0 else l.getD p 0 := by
    intro p hp
    have h1 := hWe p (by omega)
    have h2 : (wOf l).getD p 0 = l.getD p 0 := by
      unfold wOf
      rw [List.getD_eq_getElem?_getD, List.getElem?_append_left hp, List.getD_eq_getElem?_getD]
    rw [h2] at h1
    rw [List.getD_eq_getElem?_getD, List.getElem?_take, if_pos hp, ← List.getD_eq_getElem?_getD, h1, errs_get bs F _ p (by omega), errs_get bs F _ p hp]
  obtain ⟨hTv, hTs⟩ := turned_sum l (errs bs F l.length) hv (errs_lv bs F _) (by rw [errs_length]) _ hTl hTe
  have hR : rightB W = !t := by
    rw [rightB_iff W hWv (by omega), hWs]
    have h1 := errs_zero bs hbs F (l.length + 15)
    cases t with
    | true =>
      obtain ⟨j, h2, h3, h4, h5⟩ := ht.1 rfl
      rw [decide_eq_false]
      · rfl
      · intro h
        have := (h1.1 h) j h3 h4
        rw [this] at h5
        simp at h5
    | false =>
      rw [decide_eq_true]
      · rfl
      · refine h1.2 fun j hj hF => ?_
        cases hb : bs.getD j false with
        | false => rfl
        | true =>
          have := ht.2 ⟨j, by omega, hj, hF, hb⟩
          simp at this
  have hA : (((crcN (W.take l.length) : Nat) : Int) != ((crcN l : Nat) : Int)) = a := by
    have h1 := errs_zero bs hbs F l.length
    have h2 : crcN (W.take l.length) = crcN l ↔ crcN (errs bs F l.length) = 0 := by rw [hTs]; exact xor_zero_iff _ _
    cases a with
    | true =>
      obtain ⟨j, h3, h4, h5, h6⟩ := ha.1 rfl
      have h7 : crcN (W.take l.length) ≠ crcN l := by
        intro h
        have := (h1.1 (h2.1 h)) j h4 h5
        rw [this] at h6
        simp at h6
      rw [bne_iff_ne]
      omega
    | false =>
      have h7 : crcN (W.take l.length) = crcN l := by
        refine h2.2 (h1.2 fun j hj hF => ?_)
        cases hb : bs.getD j false with
        | false => rfl
        | true =>
          have := ha.2 ⟨j, by omega, hj, hF, hb⟩
          simp at this
      rw [h7]
      simp
  rw [right_eq W (by omega) (by omega), hR]
  simp only [Option.bind_some]
  rw [if_neg (by cases t <;> simp), if_neg (by omega), if_pos (by omega), if_pos (by omega), Int.toNat_natCast, sum_lv hTv]
  simp only [Option.bind_some]
  rw [if_pos trivial, hA, if_pos (by simp), awake02]
  rfl
include hv hl in
theorem turns_l0 (d : Nat) : ∀ (k i : Nat) (W : List Int) (t a : Bool), 15 - i = d → i ≤ 15 → 2000 + 2 * d < k → i ≤ l.length + 15 - F → F < l.length + 15 → W.length = l.length + 15 →
    (∀ p, p < l.length + 15 → W.getD p 0 = if F ≤ p ∧ p < F + i ∧ [b0, b1, b2, b3, b4, b5, b6, b7, b8, b9, b10, b11, b12, b13, b14].getD (p - F) false = true then 1 - (wOf l).getD p 0 else (wOf l).getD p 0) →
    (t = true ↔ hit [b0, b1, b2, b3, b4, b5, b6, b7, b8, b9, b10, b11, b12, b13, b14] F i (l.length + 15)) →
    (a = true ↔ hit [b0, b1, b2, b3, b4, b5, b6, b7, b8, b9, b10, b11, b12, b13, b14] F i l.length) →
    magnetolaw02_Crc15Turns.l0 k l (F : Int) ((crcN l : Nat) : Int) W t a (i : Int) b0 b1 b2 b3 b4 b5 b6 b7 b8 b9 b10 b11 b12 b13 b14 = some true := by
  generalize hbs : [b0, b1, b2, b3, b4, b5, b6, b7, b8, b9, b10, b11, b12, b13, b14] = bs
  have hb15 : bs.length = 15 := by rw [← hbs]; rfl
  have hend : ∀ (k i : Nat) (W : List Int) (t a : Bool), 1500 < k → (15 ≤ i ∨ l.length + 15 ≤ F + i) → W.length = l.length + 15 →
    (∀ p, p < l.length + 15 → W.getD p 0 = if F ≤ p ∧ p < F + i ∧ bs.getD (p - F) false = true then 1 - (wOf l).getD p 0 else (wOf l).getD p 0) →
    (t = true ↔ hit bs F i (l.length + 15)) →
    (a = true ↔ hit bs F i l.length) →
    magnetolaw02_Crc15Turns.j2 k l (F : Int) ((crcN l : Nat) : Int) W t a (i : Int) false b0 b1 b2 b3 b4 b5 b6 b7 b8 b9 b10 b11 b12 b13 b14 = some true := by
    intro k i W t a hk hi hWl hW ht ha
    obtain ⟨k, rfl⟩ : ∃ m, k = m + 1 := ⟨k - 1, by omega⟩
    simp only [magnetolaw02_Crc15Turns.j2]
    rw [if_neg (by simp)]
    exact turns_end l hv hl F bs hb15 k (by omega) W i hi t a hWl hW ht ha
  have hwv : isLv (wOf l) := isLv_append.2 ⟨hv, ofI_lv 15 _⟩
  have hwl := wOf_length l
  induction d with
  | zero =>
    intro k i W t a hd hi hk hiF hF hWl hW ht ha
    obtain ⟨k, rfl⟩ : ∃ m, k = m + 1 := ⟨k - 1, by omega⟩
    simp only [magnetolaw02_Crc15Turns.l0]
    rw [if_neg (by omega)]
    exact hend k i W t a (by omega) (by omega) hWl hW ht ha
  | succ d ih =>
    intro k i W t a hd hi hk hiF hF hWl hW ht ha
    obtain ⟨k, rfl⟩ : ∃ m, k = m + 1 + 1 := ⟨k - 2, by omega⟩
    simp only [magnetolaw02_Crc15Turns.l0]
    rw [if_pos (by omega), wrap_in (by omega) (by omega)]
    by_cases hin : (F : Int) + i < (W.length : Int)
    · rw [decide_eq_true hin]
      simp only [magnetolaw02_Crc15Turns.j2]
      rw [if_pos trivial, if_pos (by omega), if_pos (by omega)]
      have hat : atB [b0, b1, b2, b3, b4, b5, b6, b7, b8, b9, b10, b11, b12, b13, b14] (i : Int) = bs.getD i false := by
        unfold atB
        rw [Int.toNat_natCast, hbs]
      rw [hat, wrap_in (x := (i : Int) + 1) (by omega) (by omega), show (i : Int) + 1 = ((i + 1 : Nat) : Int) by omega]
      by_cases hb : bs.getD i false = true
      · rw [if_pos hb, wrap_in (x := (F : Int) + i) (by omega) (by omega), if_pos (by omega), if_pos hin]
        simp only [Option.bind_some]
        have hx : rd W ((F : Int) + i) = (wOf l).getD (F + i) 0 := by
          have := hW (F + i) (by omega)
          rw [if_neg (by omega)] at this
          unfold rd
          rw [show ((F : Int) + i).toNat = F + i by omega, this]
        have hlv := isLv_get hwv (F + i) (by omega)
        rw [hx, wrap_in (x := 1 - (wOf l).getD (F + i) 0) (by omega) (by omega), show ((F : Int) + i).toNat = F + i by omega]
        have hW' : ∀ p, p < l.length + 15 → (W.set (F + i) (1 - (wOf l).getD (F + i) 0)).getD p 0 = if F ≤ p ∧ p < F + (i + 1) ∧ bs.getD (p - F) false = true then 1 - (wOf l).getD p 0 else (wOf l).getD p 0 := by
          intro p hp
          rw [getD_set _ _ _ _ (by omega)]
          by_cases he : F + i = p
          · subst he
            rw [if_pos rfl, if_pos ⟨by omega, by omega, by rw [show F + i - F = i by omega]; exact hb⟩]
          · rw [if_neg he, hW p hp]
            have : (F ≤ p ∧ p < F + i ∧ bs.getD (p - F) false = true) ↔ (F ≤ p ∧ p < F + (i + 1) ∧ bs.getD (p - F) false = true) :=
              ⟨fun h => ⟨h.1, by omega, h.2.2⟩, fun h => ⟨h.1, by omega, h.2.2⟩⟩
            simp only [this]
        have ht' : true = true ↔ hit bs F (i + 1) (l.length + 15) :=
          ⟨fun _ => hit_yes (by omega) (by omega) hb, fun _ => rfl⟩
        by_cases hat : a = true
        · rw [if_pos hat]
          refine ih k (i + 1) _ _ _ (by omega) (by omega) (by omega) (by omega) hF (by rw [List.length_set]; exact hWl) hW' ht' ⟨fun _ => hit_more (ha.1 hat), fun _ => rfl⟩
        · rw [if_neg hat]
          refine ih k (i + 1) _ _ _ (by omega) (by omega) (by omega) (by omega) hF (by rw [List.length_set]; exact hWl) hW' ht' ⟨fun h => ?_, fun h => ?_⟩
          · rw [decide_eq_true_eq] at h
            exact hit_yes (by omega) (by omega) hb
          · rw [decide_eq_true_eq]
            by_cases hlt : F + i < l.length
            · omega
            · exact absurd (ha.2 (hit_less h (fun g => hlt g.1))) hat
      · rw [if_neg hb]
        refine ih k (i + 1) W t a (by omega) (by omega) (by omega) (by omega) hF hWl (fun p hp => ?_) ⟨fun h => ?_, fun h => ?_⟩ ⟨fun h => ?_, fun h => ?_⟩
        · rw [hW p hp]
          have : (F ≤ p ∧ p < F + i ∧ bs.getD (p - F) false = true) ↔ (F ≤ p ∧ p < F + (i + 1) ∧ bs.getD (p - F) false = true) := by
            refine ⟨fun h => ⟨h.1, by omega, h.2.2⟩, fun h => ⟨h.1, ?_, h.2.2⟩⟩
            by_cases he : p = F + i
            · subst he
              rw [show F + i - F = i by omega] at h
              exact absurd h.2.2 hb
            · omega
          simp only [this]
        · exact hit_more (ht.1 h)
        · exact ht.2 (hit_less h (fun g => hb g.2))
        · exact hit_more (ha.1 h)
        · exact ha.2 (hit_less h (fun g => hb g.2))
    · rw [decide_eq_false hin]
      exact hend (k + 1) i W t a (by omega) (by omega) hWl hW ht ha
end
theorem Crc15Turns : magnetolaw02_Crc15Turns.Pure := by
  intro l s b0 b1 b2 b3 b4 b5 b6 b7 b8 b9 b10 b11 b12 b13 b14 _ _ _
  obtain ⟨k, hk⟩ : ∃ k : Nat, k = 3000 := ⟨_, rfl⟩
  refine ⟨k, ?_⟩
  obtain ⟨k, rfl⟩ : ∃ m, k = m + 1 := ⟨k - 1, by omega⟩
  unfold magnetolaw02_Crc15Turns.f
  by_cases hl : (l.length : Int) > 300
  · rw [if_pos hl, awake02]
    rfl
  rw [if_neg hl]
  by_cases hv : isLv l
  · rw [sum_lv hv]
    simp only [Option.bind_some]
    rw [bits_yes _ (crcN_lt l) (by omega)]
    simp only [Option.bind_some]
    rw [if_pos trivial]
    simp only [magnetolaw02_Crc15Turns.j0]
    rw [if_neg (by simp)]
    have hw : ([] ++ l ++ ofI ((crcN l : Nat) : Int) 15 : List Int) = wOf l := by simp [wOf]
    have hwl := wOf_length l
    simp only [Option.bind_some]
    rw [if_pos (by simp; omega), if_pos (by rw [ofI_length]; simp; omega), hw, if_neg (by omega)]
    have h1 := Int.tmod_lt_of_pos s (show (0 : Int) < ((wOf l).length : Int) by omega)
    have h2 := Int.lt_tmod_of_pos s (show (0 : Int) < ((wOf l).length : Int) by omega)
    rw [wrap_in (by omega) (by omega), Int.tmod_eq_emod_of_nonneg (a := s.tmod _ + _) (by omega)]
    have h3 := Int.emod_nonneg (s.tmod ((wOf l).length : Int) + ((wOf l).length : Int)) (show ((wOf l).length : Int) ≠ 0 by omega)
    have h4 := Int.emod_lt_of_pos (s.tmod ((wOf l).length : Int) + ((wOf l).length : Int)) (show 0 < ((wOf l).length : Int) by omega)
    obtain ⟨F, hF⟩ := Int.eq_ofNat_of_zero_le h3
    rw [hF] at h4 ⊢
    refine turns_l0 l hv (by omega) F b0 b1 b2 b3 b4 b5 b6 b7 b8 b9 b10 b11 b12 b13 b14 15 k 0 (wOf l) false false rfl (by omega) (by omega) (by omega) (by omega) (by omega) (fun p hp => ?_) ⟨fun h => by simp at h, fun h => ?_⟩ ⟨fun h => by simp at h, fun h => ?_⟩
    · rw [if_neg (by omega)]
    · exact absurd h (hit_none _ _ _)
    · exact absurd h (hit_none _ _ _)
  · rw [sum_no hv]
    simp only [Option.bind_some]
    rw [show (0 : Int) = ((0 : Nat) : Int) from rfl, bits_yes 0 (by omega) (by omega)]
    simp only [Option.bind_some]
    rw [if_neg (by omega)]
    simp only [magnetolaw02_Crc15Turns.j0]
    rw [if_pos trivial, if_pos trivial, awake02]
    rfl
end Go.Proofs.Ytipflkbpjnacnaa.Pure
