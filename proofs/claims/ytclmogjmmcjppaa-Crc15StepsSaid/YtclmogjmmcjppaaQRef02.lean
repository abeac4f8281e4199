/- What the document's own functions of layer 2 answer, in plain numbers. -/
import Derived.Test.YtclmogjmmcjppaaPAx14
import Derived.Test.YtclmogjmmcjppaaPAx15
import Derived.Test.YtclmogjmmcjppaaQCrc
namespace Go.Proofs.Ytclmogjmmcjppaa.Pure
open Go.RowKit Go.Proofs.Ytclmogjmmcjppaa.PA Go.Proofs.YtclmogjmmcjppaaW.PrintWords Go.Proofs.YtclmogjmmcjppaaW.PrintLast Go.Proofs.YtclmogjmmcjppaaW.PrintMore

theorem xor_bit (a b j : Nat) : (a ^^^ b) / 2 ^ j % 2 = (a / 2 ^ j + b / 2 ^ j) % 2 := by
  have h := Nat.shiftRight_xor_distrib (a := a) (b := b) (i := j)
  rw [Nat.shiftRight_eq_div_pow, Nat.shiftRight_eq_div_pow, Nat.shiftRight_eq_div_pow] at h
  rw [h]
  exact xor_parity _ _
def polyL : List Int := [1, 0, 0, 0, 1, 0, 1, 1, 0, 0, 1, 1, 0, 0, 1]
theorem step_bit (n x i : Nat) (hn : n < 32768) (hi : i < 15) :
    ((stepN n x / 2 ^ (14 - i) % 2 : Nat) : Int) = ((if i < 14 then ((n / 2 ^ (13 - i) % 2 : Nat) : Int) else 0) + (((n / 16384 + x) % 2 : Nat) : Int) * polyL.getD i 0) % 2 := by
  unfold stepN
  rw [xor_bit]
  have hc : i = 0 ∨ i = 1 ∨ i = 2 ∨ i = 3 ∨ i = 4 ∨ i = 5 ∨ i = 6 ∨ i = 7 ∨ i = 8 ∨ i = 9 ∨ i = 10 ∨ i = 11 ∨ i = 12 ∨ i = 13 ∨ i = 14 := by omega
  generalize n / 16384 + x = u
  by_cases h : u % 2 = 1
  · rw [if_pos h, h]
    rcases hc with rfl | rfl | rfl | rfl | rfl | rfl | rfl | rfl | rfl | rfl | rfl | rfl | rfl | rfl | rfl <;> (simp [polyL]; try omega)
  · rw [if_neg h, show u % 2 = 0 by omega]
    rcases hc with rfl | rfl | rfl | rfl | rfl | rfl | rfl | rfl | rfl | rfl | rfl | rfl | rfl | rfl | rfl <;> (simp [polyL]; try omega)
theorem refBehind_l0 (n x : Nat) (hn : n < 32768) (d : Nat) : ∀ (k i : Nat), 15 - i = d → i ≤ 15 → d < k →
    magnetoref02_Behind.l0 k (ofI (n : Int) 15) (((n / 16384 + x) % 2 : Nat) : Int) ((ofI ((stepN n x : Nat) : Int) 15).take i) polyL (i : Int) = some (ofI ((stepN n x : Nat) : Int) 15) := by
  induction d with
  | zero =>
    intro k i hd hi hk
    obtain ⟨k, rfl⟩ : ∃ m, k = m + 1 := ⟨k - 1, by omega⟩
    simp only [magnetoref02_Behind.l0]
    rw [if_neg (by omega), List.take_of_length_le (by rw [ofI_length]; omega)]
  | succ d ih =>
    intro k i hd hi hk
    obtain ⟨k, rfl⟩ : ∃ m, k = m + 1 := ⟨k - 1, by omega⟩
    have hlen : (ofI (n : Int) 15).length = 15 := ofI_length 15 _
    have hlen2 : (ofI ((stepN n x : Nat) : Int) 15).length = 15 := ofI_length 15 _
    have hb := step_bit n x i hn (by omega)
    have hg : rd (ofI ((stepN n x : Nat) : Int) 15) (i : Int) = ((stepN n x / 2 ^ (14 - i) % 2 : Nat) : Int) := by
      unfold rd
      rw [Int.toNat_natCast, ofI_get 15 _ i (by omega), show 15 - 1 - i = 14 - i by omega]
      rw [Int.natCast_emod, Int.natCast_ediv, Int.natCast_pow]
      rfl
    have htake : (ofI ((stepN n x : Nat) : Int) 15).take (i + 1) = (ofI ((stepN n x : Nat) : Int) 15).take i ++ [rd (ofI ((stepN n x : Nat) : Int) 15) (i : Int)] := by
      rw [List.take_succ_eq_append_getElem (by omega), rd_at _ i (by omega)]
    have hp : rd polyL (i : Int) = polyL.getD i 0 := by unfold rd; rw [Int.toNat_natCast]
    have hpl : polyL.getD i 0 = 0 ∨ polyL.getD i 0 = 1 := by
      have : isLv polyL := by decide
      exact isLv_get this i (by simp [polyL]; omega)
    have hu : (((n / 16384 + x) % 2 : Nat) : Int) = 0 ∨ (((n / 16384 + x) % 2 : Nat) : Int) = 1 := by omega
    have hm : (((n / 16384 + x) % 2 : Nat) : Int) * polyL.getD i 0 = 0 ∨ (((n / 16384 + x) % 2 : Nat) : Int) * polyL.getD i 0 = 1 := by
      rcases hu with h | h <;> rcases hpl with h' | h' <;> rw [h, h'] <;> simp
    have htl : ((ofI ((stepN n x : Nat) : Int) 15).take i).length = i := by rw [List.length_take]; omega
    have hnext := ih k (i + 1) (by omega) (by omega) (by omega)
    rw [htake, hg, hb] at hnext
    simp only [magnetoref02_Behind.l0]
    rw [hp, if_pos (by omega), wrap_in (x := (i : Int) + 1) (by omega) (by omega), wrap_in (x := (((n / 16384 + x) % 2 : Nat) : Int) * polyL.getD i 0) (by omega) (by omega)]
    rw [show ((i + 1 : Nat) : Int) = (i : Int) + 1 by omega] at hnext
    by_cases h14 : i < 14
    · rw [if_pos (by omega), if_pos (by omega), if_pos (by omega), if_pos (by omega), if_pos (by simp [polyL]; omega), if_pos (by omega)]
      have hs : rd (ofI (n : Int) 15) ((i : Int) + 1) = ((n / 2 ^ (13 - i) % 2 : Nat) : Int) := by
        unfold rd
        rw [show ((i : Int) + 1).toNat = i + 1 by omega, ofI_get 15 _ (i + 1) (by omega), show 15 - 1 - (i + 1) = 13 - i by omega]
        rw [Int.natCast_emod, Int.natCast_ediv, Int.natCast_pow]
        rfl
      rw [if_pos h14] at hnext
      rw [hs, wrap_in (by omega) (by omega), Int.tmod_eq_emod_of_nonneg (by omega)]
      exact hnext
    · rw [if_neg (by omega), if_pos (by omega), if_pos (by simp [polyL]; omega), if_pos (by omega)]
      rw [if_neg h14, Int.zero_add] at hnext
      rw [wrap_in (by omega) (by omega), Int.tmod_eq_emod_of_nonneg (by omega)]
      exact hnext
theorem refBehind_eq (n x : Nat) (hn : n < 32768) (hx : x < 2) {k : Nat} (hk : 15 < k) : magnetoref02_Behind.f k (ofI (n : Int) 15) (x : Int) = some (ofI ((stepN n x : Nat) : Int) 15) := by
  unfold magnetoref02_Behind.f
  have hlen : (ofI (n : Int) 15).length = 15 := ofI_length 15 _
  have h0 : rd (ofI (n : Int) 15) 0 = ((n / 16384 % 2 : Nat) : Int) := by
    have := ofI_get 15 (n : Int) 0 (by omega)
    unfold rd
    rw [show ((0 : Int)).toNat = 0 from rfl, this]
    rw [Int.natCast_emod, Int.natCast_ediv]
    rfl
  have hP : magnetoref02_Poly.f = some polyL := rfl
  rw [if_pos (by omega), hP]
  simp only [Option.bind_some]
  have ht : Int.tmod (wrap64 (rd (ofI (n : Int) 15) 0 + (x : Int))) 2 = (((n / 16384 + x) % 2 : Nat) : Int) := by
    rw [h0, wrap_in (by omega) (by omega), Int.tmod_eq_emod_of_nonneg (by omega)]
    omega
  rw [ht]
  exact refBehind_l0 n x hn 15 k 0 (by omega) (by omega) hk
theorem refSum_l0 (l : List Int) (h : isLv l) (hl : l.length ≤ 1000000000) (d : Nat) : ∀ (k i : Nat), l.length - i = d → i ≤ l.length → d + 20 < k →
    magnetoref02_Sum.l0 k l (ofI ((crcN (l.take i) : Nat) : Int) 15) (i : Int) = some (ofI ((crcN l : Nat) : Int) 15) := by
  induction d with
  | zero =>
    intro k i hd hi hk
    obtain ⟨k, rfl⟩ : ∃ m, k = m + 1 := ⟨k - 1, by omega⟩
    simp only [magnetoref02_Sum.l0]
    rw [if_neg (by omega), List.take_of_length_le (by omega)]
  | succ d ih =>
    intro k i hd hi hk
    obtain ⟨k, rfl⟩ : ∃ m, k = m + 1 := ⟨k - 1, by omega⟩
    have hi' : i < l.length := by omega
    have hx := rd_lv h i hi'
    have hnext := ih k (i + 1) (by omega) (by omega) (by omega)
    have htake : l.take (i + 1) = l.take i ++ [rd l (i : Int)] := by rw [List.take_succ_eq_append_getElem hi', rd_at l i hi']
    obtain ⟨x, hxe⟩ := Int.eq_ofNat_of_zero_le (show 0 ≤ rd l (i : Int) by omega)
    have hc : crcN (l.take (i + 1)) = stepN (crcN (l.take i)) x := by
      rw [htake]
      unfold crcN
      rw [nats_append, sumN_append, hxe]
      rfl
    rw [hc] at hnext
    simp only [magnetoref02_Sum.l0]
    rw [if_pos (by omega), if_pos (by omega), hxe, refBehind_eq _ x (crcN_lt _) (by omega) (by omega), wrap_in (by omega) (by omega)]
    simp only [Option.bind_some]
    rw [show ((i + 1 : Nat) : Int) = (i : Int) + 1 by omega] at hnext
    exact hnext
theorem refSum_eq {l : List Int} (h : isLv l) (hl : l.length ≤ 1000000000) {k : Nat} (hk : l.length + 20 < k) : magnetoref02_Sum.f k l = some (ofI ((crcN l : Nat) : Int) 15) := by
  unfold magnetoref02_Sum.f
  have := refSum_l0 l h hl l.length k 0 (by omega) (by omega) hk
  rw [← this]
  rw [show crcN (l.take 0) = 0 from rfl, show ((0 : Nat) : Int) = 0 from rfl, ofI_zero]
theorem refValue2_l0 (l : List Int) (h : isLv l) (hl : l.length ≤ 15) (d : Nat) : ∀ (k i : Nat), l.length - i = d → i ≤ l.length → d < k →
    magnetoref02_Value.l0 k l (valI (l.take i)) (i : Int) = some (valI l) := by
  induction d with
  | zero =>
    intro k i hd hi hk
    obtain ⟨k, rfl⟩ : ∃ m, k = m + 1 := ⟨k - 1, by omega⟩
    simp only [magnetoref02_Value.l0]
    rw [if_neg (by omega), List.take_of_length_le (by omega)]
  | succ d ih =>
    intro k i hd hi hk
    obtain ⟨k, rfl⟩ : ∃ m, k = m + 1 := ⟨k - 1, by omega⟩
    have hi' : i < l.length := by omega
    have hx := rd_lv h i hi'
    have e : 2 * valI (l.take i) + rd l (i : Int) = valI (l.take (i + 1)) := by
      rw [List.take_succ_eq_append_getElem hi', valI_snoc, rd_at l i hi']
    have hb := valI_bounds (isLv_take h i)
    have hp := pow_le (show (l.take i).length ≤ 15 by rw [List.length_take]; omega)
    have h15 : (2 : Int) ^ 15 = 32768 := by decide
    simp only [magnetoref02_Value.l0]
    rw [if_pos (by omega), if_pos (by omega), wrap_in (x := (i : Int) + 1) (by omega) (by omega), wrap_in (x := 2 * valI (l.take i)) (by omega) (by omega), wrap_in (by omega) (by omega), e, show (i : Int) + 1 = ((i + 1 : Nat) : Int) from by omega]
    exact ih k (i + 1) (by omega) (by omega) (by omega)
theorem refValue2_eq {l : List Int} (h : isLv l) (hl : l.length ≤ 15) {k : Nat} (hk : l.length < k) : magnetoref02_Value.f k l = some (valI l) := by
  unfold magnetoref02_Value.f
  have := refValue2_l0 l h hl l.length k 0 (by omega) (by omega) hk
  simpa [valI] using this
theorem refValue2_ofI (n : Nat) (hn : n < 32768) {k : Nat} (hk : 15 < k) : magnetoref02_Value.f k (ofI (n : Int) 15) = some (n : Int) := by
  rw [refValue2_eq (ofI_lv 15 _) (by rw [ofI_length]; omega) (by rw [ofI_length]; omega), valI_ofI, Int.emod_eq_of_lt (by omega) (by omega)]
theorem refOf2_l0 (n0 : Nat) (hn : n0 < 32768) (d : Nat) : ∀ (k i : Nat) (o : List Int), o.length = 15 → i = d → d ≤ 15 → d < k → (∀ j, i ≤ j → j < 15 → o.getD j 0 = ((n0 / 2 ^ (14 - j) % 2 : Nat) : Int)) →
    magnetoref02_Of.l0 k ((n0 / 2 ^ (15 - i) : Nat) : Int) o ((i : Int) - 1) = some (ofI (n0 : Int) 15) := by
  induction d with
  | zero =>
    intro k i o ho hi hd hk hg
    subst hi
    obtain ⟨k, rfl⟩ : ∃ m, k = m + 1 := ⟨k - 1, by omega⟩
    simp only [magnetoref02_Of.l0]
    rw [if_neg (by omega)]
    have : o = ofI (n0 : Int) 15 := by
      refine list_ext (by rw [ho, ofI_length]) fun j hj => ?_
      rw [hg j (by omega) (by omega), ofI_get 15 _ j (by omega), show 15 - 1 - j = 14 - j by omega]
      rw [Int.natCast_emod, Int.natCast_ediv, Int.natCast_pow]
      rfl
    rw [this]
  | succ d ih =>
    intro k i o ho hi hd hk hg
    subst hi
    obtain ⟨k, rfl⟩ : ∃ m, k = m + 1 := ⟨k - 1, by omega⟩
    have hq : n0 / 2 ^ (15 - (d + 1)) < 32768 := Nat.lt_of_le_of_lt (Nat.div_le_self _ _) hn
    simp only [magnetoref02_Of.l0]
    have e1 : n0 / 2 ^ (15 - d) = n0 / 2 ^ (15 - (d + 1)) / 2 := by
      rw [Nat.div_div_eq_div_mul, show 15 - d = (15 - (d + 1)) + 1 by omega, Nat.pow_succ]
    have e2 : n0 / 2 ^ (14 - d) % 2 = n0 / 2 ^ (15 - (d + 1)) % 2 := by rw [show 15 - (d + 1) = 14 - d by omega]
    have ih := ih k d (o.set d ((n0 / 2 ^ (14 - d) % 2 : Nat) : Int)) (by simp [ho]) rfl (by omega) (by omega) fun j hj1 hj2 => by
      rw [getD_set _ _ _ _ (by omega)]
      by_cases hj : d = j
      · subst hj; rw [if_pos rfl]
      · rw [if_neg hj]; exact hg j (by omega) hj2
    rw [e1, e2] at ih
    generalize n0 / 2 ^ (15 - (d + 1)) = q at hq ih ⊢
    rw [if_pos (by omega), if_pos (by omega), if_pos (by omega)]
    have f1 : wrap64 (Int.tdiv (q : Int) 2) = ((q / 2 : Nat) : Int) := by
      rw [Int.tdiv_eq_ediv_of_nonneg (by omega), wrap_in (by omega) (by omega)]; omega
    have f2 : Int.tmod (q : Int) 2 = ((q % 2 : Nat) : Int) := by
      rw [Int.tmod_eq_emod_of_nonneg (by omega)]; omega
    rw [f1, f2, wrap_in (by omega) (by omega), show ((d + 1 : Nat) : Int) - 1 - 1 = (d : Int) - 1 by omega, show (((d + 1 : Nat) : Int) - 1).toNat = d by omega]
    exact ih
theorem refOf2_eq (n : Nat) (hn : n < 32768) {k : Nat} (hk : 15 < k) : magnetoref02_Of.f k (n : Int) = some (ofI (n : Int) 15) := by
  unfold magnetoref02_Of.f
  have := refOf2_l0 n hn 15 k 15 (List.replicate 15 0) (by simp) rfl (by omega) hk (fun j h1 h2 => by omega)
  simpa using this
end Go.Proofs.Ytclmogjmmcjppaa.Pure
