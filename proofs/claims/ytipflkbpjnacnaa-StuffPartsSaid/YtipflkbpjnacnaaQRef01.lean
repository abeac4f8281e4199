/- What the document's own functions of layer 1 answer. -/
import Derived.Test.YtipflkbpjnacnaaPAx8
import Derived.Test.YtipflkbpjnacnaaPAx9
import Derived.Test.YtipflkbpjnacnaaQBits
namespace Go.Proofs.Ytipflkbpjnacnaa.Pure
open Go.RowKit Go.Proofs.Ytipflkbpjnacnaa.PA Go.Proofs.YtipflkbpjnacnaaW.PrintWords Go.Proofs.YtipflkbpjnacnaaW.PrintLast Go.Proofs.YtipflkbpjnacnaaW.PrintMore

theorem refCheck_l0 (l : List Int) (hl : l.length ≤ 1000000000000) (d : Nat) : ∀ (k i : Nat), l.length - i = d → i ≤ l.length → d < k →
    magnetoref01_Check.l0 k l (i : Int) = some (chk (l.drop i) i) := by
  induction d with
  | zero =>
    intro k i hd hi hk
    obtain ⟨k, rfl⟩ : ∃ m, k = m + 1 := ⟨k - 1, by omega⟩
    simp only [magnetoref01_Check.l0]
    rw [if_neg (by omega), List.drop_eq_nil_of_le (by omega), chk]
  | succ d ih =>
    intro k i hd hi hk
    obtain ⟨k, rfl⟩ : ∃ m, k = m + 1 := ⟨k - 1, by omega⟩
    have hi' : i < l.length := by omega
    simp only [magnetoref01_Check.l0]
    rw [if_pos (by omega), if_pos (by omega), wrap_in (by omega) (by omega), show (i : Int) + 1 = ((i + 1 : Nat) : Int) from by omega, ih k (i + 1) (by omega) (by omega) (by omega)]
    rw [List.drop_eq_getElem_cons hi', chk, rd_at l i hi', show ((i + 1 : Nat) : Int) = (i : Int) + 1 from by omega]
    by_cases h0 : l[i] = 0
    · rw [if_pos h0, if_pos (.inl h0)]
    · rw [if_neg h0]
      by_cases h1 : l[i] = 1
      · rw [if_pos h1, if_pos (.inr h1)]
      · rw [if_neg h1, if_neg (by rintro (h | h); exact h0 h; exact h1 h)]
theorem refCheck_eq (l : List Int) (hl : l.length ≤ 1000000000000) {k : Nat} (hk : l.length < k) : magnetoref01_Check.f k l = some (chk l 0) := by
  unfold magnetoref01_Check.f
  have := refCheck_l0 l hl l.length k 0 (by omega) (by omega) hk
  simpa using this

def digB (l : List Int) : List UInt8 := l.map fun x => if x = 0 then 48 else 49
theorem textB_list {l : List Int} (h : isLv l) : (textB l).toList = digB l := by
  rw [Lib.toList_data]
  unfold textB strOfNums digB
  simp only [List.map_map]
  refine List.map_congr_left fun x hx => ?_
  rcases h x hx with rfl | rfl <;> rfl
theorem toList_append1 (a b : ByteArray) : (a ++ b).toList = a.toList ++ b.toList := by
  rw [Lib.toList_data, Lib.toList_data, Lib.toList_data]
  simp
theorem refText_l0 (l : List Int) (h : isLv l) (hl : l.length ≤ 1000000000000) (d : Nat) : ∀ (k i : Nat) (s : ByteArray), l.length - i = d → i ≤ l.length → d < k → s.size = i →
    ∃ t, magnetoref01_Text.l0 k l s (i : Int) = some t ∧ t.toList = s.toList ++ digB (l.drop i) := by
  induction d with
  | zero =>
    intro k i s hd hi hk hs
    obtain ⟨k, rfl⟩ : ∃ m, k = m + 1 := ⟨k - 1, by omega⟩
    refine ⟨s, ?_, ?_⟩
    · simp only [magnetoref01_Text.l0]
      rw [if_neg (by omega)]
    · rw [List.drop_eq_nil_of_le (by omega)]
      simp [digB]
  | succ d ih =>
    intro k i s hd hi hk hs
    obtain ⟨k, rfl⟩ : ∃ m, k = m + 1 := ⟨k - 1, by omega⟩
    have hi' : i < l.length := by omega
    have hx := rd_lv h i hi'
    simp only [magnetoref01_Text.l0]
    rw [if_pos (by omega), if_pos (by omega), wrap_in (by omega) (by omega), show (i : Int) + 1 = ((i + 1 : Nat) : Int) from by omega, List.drop_eq_getElem_cons hi']
    rw [rd_at l i hi'] at hx ⊢
    by_cases h0 : l[i] = 0
    · rw [if_pos h0, if_pos (by omega)]
      obtain ⟨t, ht, e⟩ := ih k (i + 1) (s ++ ⟨#[48]⟩) (by omega) (by omega) (by omega) (by rw [ByteArray.size_append, hs]; rfl)
      refine ⟨t, ht, ?_⟩
      rw [e, toList_append1, List.append_assoc]
      rw [show (⟨#[48]⟩ : ByteArray).toList = [48] from by rw [Lib.toList_data]]
      simp only [digB, List.map_cons, h0, if_pos]
      rfl
    · rw [if_neg h0, if_pos (by omega)]
      obtain ⟨t, ht, e⟩ := ih k (i + 1) (s ++ ⟨#[49]⟩) (by omega) (by omega) (by omega) (by rw [ByteArray.size_append, hs]; rfl)
      refine ⟨t, ht, ?_⟩
      rw [e, toList_append1, List.append_assoc]
      rw [show (⟨#[49]⟩ : ByteArray).toList = [49] from by rw [Lib.toList_data]]
      simp only [digB, List.map_cons, if_neg h0]
      rfl
theorem refText_lv {l : List Int} (h : isLv l) (hl : l.length ≤ 1000000000000) {k : Nat} (hk : l.length < k) : ∃ t, magnetoref01_Text.f k l = some t ∧ t.toList = digB l := by
  unfold magnetoref01_Text.f
  obtain ⟨t, ht, e⟩ := refText_l0 l h hl l.length k 0 ⟨#[]⟩ (by omega) (by omega) hk rfl
  exact ⟨t, ht, by simpa [Lib.toList_data] using e⟩

theorem refOf_l0 (n0 : Int) (w : Nat) (hw : w ≤ 64) (d : Nat) : ∀ (k i : Nat) (n : Int), 0 ≤ n → n < 18446744073709551616 → w - i = d → i ≤ w → d < k → n = n0 / 2 ^ i →
    magnetoref01_Of.l0 k n (w : Int) (ofI n0 i) (i : Int) = some (ofI n0 w) := by
  induction d with
  | zero =>
    intro k i n h0 h1 hd hi hk hn
    obtain ⟨k, rfl⟩ : ∃ m, k = m + 1 := ⟨k - 1, by omega⟩
    simp only [magnetoref01_Of.l0]
    rw [if_neg (by omega), show i = w by omega]
  | succ d ih =>
    intro k i n h0 h1 hd hi hk hn
    obtain ⟨k, rfl⟩ : ∃ m, k = m + 1 := ⟨k - 1, by omega⟩
    simp only [magnetoref01_Of.l0]
    rw [if_pos (by omega)]
    simp only [Option.bind_some]
    rw [if_pos (by rw [ofI_length]; simp; omega), wrap_in (x := (i : Int) + 1) (by omega) (by omega), show (i : Int) + 1 = ((i + 1 : Nat) : Int) from by omega]
    rw [Int.tdiv_eq_ediv_of_nonneg h0, Int.tmod_eq_emod_of_nonneg h0, wrap_in (by omega) (by omega), u64_wrap (by omega) (by omega)]
    have e : [n % 2] ++ ofI n0 i = ofI n0 (i + 1) := by
      rw [show i + 1 = 1 + i by omega, ofI_append, hn]
      rfl
    rw [e]
    refine ih k (i + 1) _ (by omega) (by omega) (by omega) (by omega) (by omega) ?_
    rw [hn, Int.ediv_ediv_of_nonneg (Int.le_of_lt (pow_pos i)), Int.pow_succ]
theorem refOf_eq (n : Int) (w : Nat) (h0 : 0 ≤ n) (h1 : n < 18446744073709551616) (hw : w ≤ 64) {k : Nat} (hk : w < k) : magnetoref01_Of.f k n (w : Int) = some (ofI n w) := by
  unfold magnetoref01_Of.f
  have := refOf_l0 n w hw w k 0 n h0 h1 (by omega) (by omega) hk (by simp)
  simpa [ofI] using this
theorem refValue_l0 (l : List Int) (h : isLv l) (hl : l.length ≤ 64) (d : Nat) : ∀ (k i : Nat), l.length - i = d → i ≤ l.length → d < k →
    magnetoref01_Value.l0 k l (valI (l.take i)) (i : Int) = some (valI l) := by
  induction d with
  | zero =>
    intro k i hd hi hk
    obtain ⟨k, rfl⟩ : ∃ m, k = m + 1 := ⟨k - 1, by omega⟩
    simp only [magnetoref01_Value.l0]
    rw [if_neg (by omega), List.take_of_length_le (by omega)]
  | succ d ih =>
    intro k i hd hi hk
    obtain ⟨k, rfl⟩ : ∃ m, k = m + 1 := ⟨k - 1, by omega⟩
    have hi' : i < l.length := by omega
    have hx := rd_lv h i hi'
    have e : 2 * valI (l.take i) + rd l (i : Int) = valI (l.take (i + 1)) := by
      rw [List.take_succ_eq_append_getElem hi', valI_snoc, rd_at l i hi']
    have hb := valI_bounds (isLv_take h (i + 1))
    rw [List.length_take, Nat.min_eq_left (by omega)] at hb
    have hp : (2 : Int) ^ (i + 1) ≤ 18446744073709551616 := by
      have h1 : (2 : Nat) ^ (i + 1) ≤ 2 ^ 64 := Nat.pow_le_pow_right (by omega) (by omega)
      have h3 : (((2 : Nat) ^ (i + 1) : Nat) : Int) ≤ ((2 ^ 64 : Nat) : Int) := Int.ofNat_le.2 h1
      simpa using h3
    have hb0 := (valI_bounds (isLv_take h i)).1
    simp only [magnetoref01_Value.l0]
    rw [if_pos (by omega), if_pos (by omega), wrap_in (x := (i : Int) + 1) (by omega) (by omega)]
    rw [u64_wrap (x := rd l (i : Int)) (by omega) (by omega), u64_wrap (x := 2 * valI (l.take i)) (by omega) (by omega), e, u64_wrap hb.1 (by omega), show (i : Int) + 1 = ((i + 1 : Nat) : Int) from by omega]
    exact ih k (i + 1) (by omega) (by omega) (by omega)
theorem refValue_lv {l : List Int} (h : isLv l) (hl : l.length ≤ 64) {k : Nat} (hk : l.length < k) : magnetoref01_Value.f k l = some (valI l) := by
  unfold magnetoref01_Value.f
  have := refValue_l0 l h hl l.length k 0 (by omega) (by omega) hk
  simpa [valI] using this
end Go.Proofs.Ytipflkbpjnacnaa.Pure
