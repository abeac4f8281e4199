/- The document's own functions of layer 2, as far as a field's laws reach them. -/
import Derived.Test.YtakemodmdhglnaaPAx21
import Derived.Test.YtakemodmdhglnaaQCrcB
namespace Go.Proofs.Ytakemodmdhglnaa.Pure
open Go.RowKit Go.Proofs.Ytakemodmdhglnaa.PA Go.Proofs.YtakemodmdhglnaaW.PrintWords Go.Proofs.YtakemodmdhglnaaW.PrintLast Go.Proofs.YtakemodmdhglnaaW.PrintMore
theorem xor_bit (a b j : Nat) : (a ^^^ b) / 2 ^ j % 2 = (a / 2 ^ j + b / 2 ^ j) % 2 := by
  have h := Nat.shiftRight_xor_distrib (a := a) (b := b) (i := j)
  rw [Nat.shiftRight_eq_div_pow, Nat.shiftRight_eq_div_pow, Nat.shiftRight_eq_div_pow] at h
  rw [h]
  exact xor_parity _ _
def polyL : List Int := [1, 0, 0, 0, 1, 0, 1, 1, 0, 0, 1, 1, 0, 0, 1]
theorem step_bit (n x i : Nat) (hn : n < 32768) (hi : i < 15) :
    ((stepN n x / 2 ^ (14 - i) % 2 : Nat) : Int) = ((if i < 14 then ((n / 2 ^ (13 - i) % 2 : Nat) : Int) else 0) + (((n / 16384 + x) % 2 : Nat) : Int) * polyL.getD i 0) % 2 := by
  unfold stepN
  rw [xor_bit]
  have hc : i = 0 ∨ i = 1 ∨ i = 2 ∨ i = 3 ∨ i = 4 ∨ i = 5 ∨ i = 6 ∨ i = 7 ∨ i = 8 ∨ i = 9 ∨ i = 10 ∨ i = 11 ∨ i = 12 ∨ i = 13 ∨ i = 14 := by omega
  generalize n / 16384 + x = u
  by_cases h : u % 2 = 1
  · rw [if_pos h, h]
    rcases hc with rfl | rfl | rfl | rfl | rfl | rfl | rfl | rfl | rfl | rfl | rfl | rfl | rfl | rfl | rfl <;> (simp [polyL]; try omega)
  · rw [if_neg h, show u % 2 = 0 by omega]
    rcases hc with rfl | rfl | rfl | rfl | rfl | rfl | rfl | rfl | rfl | rfl | rfl | rfl | rfl | rfl | rfl <;> (simp [polyL]; try omega)
theorem refBehind_l0 (n x : Nat) (hn : n < 32768) (d : Nat) : ∀ (k i : Nat), 15 - i = d → i ≤ 15 → d < k →
    magnetoref02_Behind.l0 k (ofI (n : Int) 15) (((n / 16384 + x) % 2 : Nat) : Int) ((ofI ((stepN n x : Nat) : Int) 15).take i) polyL (i : Int) = some (ofI ((stepN n x : Nat) : Int) 15) := by
  induction d with
  | zero =>
    intro k i hd hi hk
    obtain ⟨k, rfl⟩ : ∃ m, k = m + 1 := ⟨k - 1, by omega⟩
    simp only [magnetoref02_Behind.l0]
    rw [if_neg (by omega), List.take_of_length_le (by rw [ofI_length]; omega)]
  | succ d ih =>
    intro k i hd hi hk
    obtain ⟨k, rfl⟩ : ∃ m, k = m + 1 := ⟨k - 1, by omega⟩
    have hlen : (ofI (n : Int) 15).length = 15 := ofI_length 15 _
    have hlen2 : (ofI ((stepN n x : Nat) : Int) 15).length = 15 := ofI_length 15 _
    have hb := step_bit n x i hn (by omega)
    have hg : rd (ofI ((stepN n x : Nat) : Int) 15) (i : Int) = ((stepN n x / 2 ^ (14 - i) % 2 : Nat) : Int) := by
      unfold rd
      rw [Int.toNat_natCast, ofI_get 15 _ i (by omega), show 15 - 1 - i = 14 - i by omega]
      rw [Int.natCast_emod, Int.natCast_ediv, Int.natCast_pow]
      rfl
    have htake : (ofI ((stepN n x : Nat) : Int) 15).take (i + 1) = (ofI ((stepN n x : Nat) : Int) 15).take i ++ [rd (ofI ((stepN n x : Nat) : Int) 15) (i : Int)] := by
      rw [List.take_succ_eq_append_getElem (by omega), rd_at _ i (by omega)]
    have hp : rd polyL (i : Int) = polyL.getD i 0 := by unfold rd; rw [Int.toNat_natCast]
    have hpl : polyL.getD i 0 = 0 ∨ polyL.getD i 0 = 1 := by
      have : isLv polyL := by decide
      exact isLv_get this i (by simp [polyL]; omega)
    have hu : (((n / 16384 + x) % 2 : Nat) : Int) = 0 ∨ (((n / 16384 + x) % 2 : Nat) : Int) = 1 := by omega
    have hm : (((n / 16384 + x) % 2 : Nat) : Int) * polyL.getD i 0 = 0 ∨ (((n / 16384 + x) % 2 : Nat) : Int) * polyL.getD i 0 = 1 := by
      rcases hu with h | h <;> rcases hpl with h' | h' <;> rw [h, h'] <;> simp
    have htl : ((ofI ((stepN n x : Nat) : Int) 15).take i).length = i := by rw [List.length_take]; omega
    have hnext := ih k (i + 1) (by omega) (by omega) (by omega)
    rw [htake, hg, hb] at hnext
    simp only [magnetoref02_Behind.l0]
    rw [hp, if_pos (by omega), wrap_in (x := (i : Int) + 1) (by omega) (by omega), wrap_in (x := (((n / 16384 + x) % 2 : Nat) : Int) * polyL.getD i 0) (by omega) (by omega)]
    rw [show ((i + 1 : Nat) : Int) = (i : Int) + 1 by omega] at hnext
    by_cases h14 : i < 14
    · rw [if_pos (by omega), if_pos (by omega), if_pos (by omega), if_pos (by omega), if_pos (by simp [polyL]; omega), if_pos (by omega)]
      have hs : rd (ofI (n : Int) 15) ((i : Int) + 1) = ((n / 2 ^ (13 - i) % 2 : Nat) : Int) := by
        unfold rd
        rw [show ((i : Int) + 1).toNat = i + 1 by omega, ofI_get 15 _ (i + 1) (by omega), show 15 - 1 - (i + 1) = 13 - i by omega]
        rw [Int.natCast_emod, Int.natCast_ediv, Int.natCast_pow]
        rfl
      rw [if_pos h14] at hnext
      rw [hs, wrap_in (by omega) (by omega), Int.tmod_eq_emod_of_nonneg (by omega)]
      exact hnext
    · rw [if_neg (by omega), if_pos (by omega), if_pos (by simp [polyL]; omega), if_pos (by omega)]
      rw [if_neg h14, Int.zero_add] at hnext
      rw [wrap_in (by omega) (by omega), Int.tmod_eq_emod_of_nonneg (by omega)]
      exact hnext
theorem refBehind_eq (n x : Nat) (hn : n < 32768) (hx : x < 2) {k : Nat} (hk : 15 < k) : magnetoref02_Behind.f k (ofI (n : Int) 15) (x : Int) = some (ofI ((stepN n x : Nat) : Int) 15) := by
  unfold magnetoref02_Behind.f
  have hlen : (ofI (n : Int) 15).length = 15 := ofI_length 15 _
  have h0 : rd (ofI (n : Int) 15) 0 = ((n / 16384 % 2 : Nat) : Int) := by
    have := ofI_get 15 (n : Int) 0 (by omega)
    unfold rd
    rw [show ((0 : Int)).toNat = 0 from rfl, this]
    rw [Int.natCast_emod, Int.natCast_ediv]
    rfl
  have hP : magnetoref02_Poly.f = some polyL := rfl
  rw [if_pos (by omega), hP]
  simp only [Option.bind_some]
  have ht : Int.tmod (wrap64 (rd (ofI (n : Int) 15) 0 + (x : Int))) 2 = (((n / 16384 + x) % 2 : Nat) : Int) := by
    rw [h0, wrap_in (by omega) (by omega), Int.tmod_eq_emod_of_nonneg (by omega)]
    omega
  rw [ht]
  exact refBehind_l0 n x hn 15 k 0 (by omega) (by omega) hk
theorem refSum_l0 (l : List Int) (h : isLv l) (hl : l.length ≤ 1000000000) (d : Nat) : ∀ (k i : Nat), l.length - i = d → i ≤ l.length → d + 20 < k →
    magnetoref02_Sum.l0 k l (ofI ((crcN (l.take i) : Nat) : Int) 15) (i : Int) = some (ofI ((crcN l : Nat) : Int) 15) := by
  induction d with
  | zero =>
    intro k i hd hi hk
    obtain ⟨k, rfl⟩ : ∃ m, k = m + 1 := ⟨k - 1, by omega⟩
    simp only [magnetoref02_Sum.l0]
    rw [if_neg (by omega), List.take_of_length_le (by omega)]
  | succ d ih =>
    intro k i hd hi hk
    obtain ⟨k, rfl⟩ : ∃ m, k = m + 1 := ⟨k - 1, by omega⟩
    have hi' : i < l.length := by omega
    have hx := rd_lv h i hi'
    have hnext := ih k (i + 1) (by omega) (by omega) (by omega)
    have htake : l.take (i + 1) = l.take i ++ [rd l (i : Int)] := by rw [List.take_succ_eq_append_getElem hi', rd_at l i hi']
    obtain ⟨x, hxe⟩ := Int.eq_ofNat_of_zero_le (show 0 ≤ rd l (i : Int) by omega)
    have hc : crcN (l.take (i + 1)) = stepN (crcN (l.take i)) x := by
      rw [htake]
      unfold crcN
      rw [nats_append, sumN_append, hxe]
      rfl
    rw [hc] at hnext
    simp only [magnetoref02_Sum.l0]
    rw [if_pos (by omega), if_pos (by omega), hxe, refBehind_eq _ x (crcN_lt _) (by omega) (by omega), wrap_in (by omega) (by omega)]
    simp only [Option.bind_some]
    rw [show ((i + 1 : Nat) : Int) = (i : Int) + 1 by omega] at hnext
    exact hnext
theorem refSum_eq {l : List Int} (h : isLv l) (hl : l.length ≤ 1000000000) {k : Nat} (hk : l.length + 20 < k) : magnetoref02_Sum.f k l = some (ofI ((crcN l : Nat) : Int) 15) := by
  unfold magnetoref02_Sum.f
  have := refSum_l0 l h hl l.length k 0 (by omega) (by omega) hk
  rw [← this]
  rw [show crcN (l.take 0) = 0 from rfl, show ((0 : Nat) : Int) = 0 from rfl, ofI_zero]
end Go.Proofs.Ytakemodmdhglnaa.Pure
