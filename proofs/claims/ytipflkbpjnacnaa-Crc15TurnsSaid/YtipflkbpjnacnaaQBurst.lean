/- Turned levels that lie side by side, and the sum. -/
import Derived.Test.YtipflkbpjnacnaaQCrc
namespace Go.Proofs.Ytipflkbpjnacnaa.Pure
open Go.RowKit Go.Proofs.Ytipflkbpjnacnaa.PA Go.Proofs.YtipflkbpjnacnaaW.PrintWords Go.Proofs.YtipflkbpjnacnaaW.PrintLast Go.Proofs.YtipflkbpjnacnaaW.PrintMore

theorem nats_zeros (n : Nat) : nats (List.replicate n 0) = List.replicate n 0 := by simp [nats]
theorem sumN_zero_iff (r s : Nat) (hs : s < 32768) : sumN s (List.replicate r 0) = 0 ↔ s = 0 := by
  constructor
  · intro h
    exact sumN_inj (List.replicate r 0) hs (by omega) (h.trans (sumN_zeros r).symm)
  · rintro rfl
    exact sumN_zeros r
theorem zeros_of (b : List Int) (h : ∀ x ∈ b, x = 0) : b = List.replicate b.length 0 := List.eq_replicate_iff.2 ⟨rfl, h⟩
theorem short_zero (b : List Int) (hb : isLv b) (hl : b.length ≤ 15) : sumN 0 (nats b) = 0 ↔ ∀ x ∈ b, x = 0 := by
  constructor
  · intro h
    have hv : isLv (List.replicate (15 - b.length) 0 ++ b) := isLv_append.2 ⟨isLv_replicate _ (.inl rfl), hb⟩
    have hlen : (List.replicate (15 - b.length) 0 ++ b).length = 15 := by rw [List.length_append, List.length_replicate]; omega
    have h1 := ofI_valI hv
    rw [hlen] at h1
    have hbd := valI_bounds hv
    rw [hlen] at hbd
    have h15 : (2 : Int) ^ 15 = 32768 := by decide
    obtain ⟨c, hc⟩ := Int.eq_ofNat_of_zero_le hbd.1
    rw [hc] at h1 hbd
    have h2 : sumN 0 (nats (List.replicate (15 - b.length) 0 ++ b)) = 0 := by rw [nats_append, sumN_append, nats_zeros, sumN_zeros, h]
    rw [← h1, nats_ofI] at h2
    have h3 := (sum_bits_iff (s := 0) (c := c) (by omega) (by omega)).1 h2
    subst h3
    have h4 : ofI ((0 : Nat) : Int) 15 = List.replicate 15 0 := ofI_zero 15
    rw [h4] at h1
    intro x hx
    have : x ∈ List.replicate 15 (0 : Int) := by rw [h1]; exact List.mem_append_right _ hx
    exact List.eq_of_mem_replicate this
  · intro h
    rw [zeros_of b h, nats_zeros, sumN_zeros]
theorem burst_zero (b : List Int) (hb : isLv b) (hl : b.length ≤ 15) (F r : Nat) : crcN (List.replicate F 0 ++ b ++ List.replicate r 0) = 0 ↔ ∀ x ∈ b, x = 0 := by
  unfold crcN
  rw [nats_append, nats_append, sumN_append, sumN_append, nats_zeros, nats_zeros, sumN_zeros, sumN_zero_iff _ _ (sumN_lt _ 0 (by omega))]
  exact short_zero b hb hl
theorem rightB_iff (W : List Int) (hW : isLv W) (hl : 15 ≤ W.length) : rightB W = decide (crcN W = 0) := by
  have h1 := List.take_append_drop (W.length - 15) W
  have hd : (W.drop (W.length - 15)).length = 15 := by rw [List.length_drop]; omega
  have hdv := isLv_drop hW (W.length - 15)
  have h2 := ofI_valI hdv
  rw [hd] at h2
  have hbd := valI_bounds hdv
  rw [hd] at hbd
  have h15 : (2 : Int) ^ 15 = 32768 := by decide
  obtain ⟨c, hc⟩ := Int.eq_ofNat_of_zero_le hbd.1
  rw [hc] at h2 hbd
  have h3 : crcN W = sumN (crcN (W.take (W.length - 15))) (bitsN c 15) := by
    rw [← crcN_append_bits, h2, h1]
  have hlt := crcN_lt (W.take (W.length - 15))
  have h4 := sum_bits_iff (s := crcN (W.take (W.length - 15))) (c := c) hlt (by omega)
  unfold rightB
  rw [decide_eq_true hl, decide_eq_true hW, h3, ← h2]
  simp only [Bool.true_and, decide_eq_decide]
  rw [h4]
  constructor
  · intro e
    have := ofI_inj (w := 15) (by omega) (by omega) (by omega) (by omega) e
    omega
  · rintro rfl
    rfl

def bvec (bs : List Bool) : List Int := bs.map fun b => if b then 1 else 0
theorem bvec_length (bs : List Bool) : (bvec bs).length = bs.length := List.length_map _
theorem bvec_lv (bs : List Bool) : isLv (bvec bs) := by
  intro x hx
  obtain ⟨b, _, rfl⟩ := List.mem_map.1 hx
  cases b
  · exact .inl rfl
  · exact .inr rfl
theorem bvec_get (bs : List Bool) (j : Nat) : (bvec bs).getD j 0 = if bs.getD j false then 1 else 0 := by
  unfold bvec
  rw [List.getD_eq_getElem?_getD, List.getElem?_map, List.getD_eq_getElem?_getD]
  cases bs[j]? <;> simp
/-- Which levels of so many are turned: 1. -/
def errs (bs : List Bool) (F m : Nat) : List Int := (List.replicate F 0 ++ bvec bs ++ List.replicate m 0).take m
theorem errs_length (bs : List Bool) (F m : Nat) : (errs bs F m).length = m := by
  unfold errs
  rw [List.length_take, List.length_append, List.length_append, List.length_replicate, List.length_replicate]
  omega
theorem errs_lv (bs : List Bool) (F m : Nat) : isLv (errs bs F m) :=
  isLv_take (isLv_append.2 ⟨isLv_append.2 ⟨isLv_replicate _ (.inl rfl), bvec_lv bs⟩, isLv_replicate _ (.inl rfl)⟩) m
theorem errs_get (bs : List Bool) (F m p : Nat) (hp : p < m) : (errs bs F m).getD p 0 = if F ≤ p ∧ bs.getD (p - F) false = true then 1 else 0 := by
  unfold errs
  rw [List.getD_eq_getElem?_getD, List.getElem?_take, if_pos hp, List.append_assoc, List.getElem?_append]
  rw [List.length_replicate]
  by_cases h : p < F
  · rw [if_pos h, List.getElem?_replicate, if_pos h, if_neg (by omega)]
    rfl
  · rw [if_neg h, List.getElem?_append, bvec_length]
    by_cases h2 : p - F < bs.length
    · rw [if_pos h2]
      have := bvec_get bs (p - F)
      rw [List.getD_eq_getElem?_getD] at this
      rw [this]
      by_cases h3 : bs.getD (p - F) false = true
      · rw [if_pos h3, if_pos ⟨by omega, h3⟩]
      · rw [if_neg h3, if_neg (fun g => h3 g.2)]
    · have h3 : ¬ (bs.getD (p - F) false = true) := by
        rw [List.getD_eq_getElem?_getD, List.getElem?_eq_none (by omega)]
        simp
      have h4 : ¬ (F ≤ p ∧ bs.getD (p - F) false = true) := fun g => h3 g.2
      rw [if_neg h2, List.getElem?_replicate, if_neg h4]
      split <;> rfl
theorem errs_take (bs : List Bool) (F m k : Nat) (h : k ≤ m) : (errs bs F m).take k = errs bs F k := by
  refine list_ext (by rw [List.length_take, errs_length, errs_length]; omega) fun i hi => ?_
  rw [List.length_take, errs_length] at hi
  rw [errs_get bs F k i (by omega), List.getD_eq_getElem?_getD, List.getElem?_take, if_pos (by omega), ← List.getD_eq_getElem?_getD, errs_get bs F m i (by omega)]
theorem errs_zero (bs : List Bool) (hb : bs.length = 15) (F m : Nat) : crcN (errs bs F m) = 0 ↔ ∀ j, j < 15 → F + j < m → bs.getD j false = false := by
  have he : errs bs F m = List.replicate (min m F) 0 ++ (bvec bs).take (m - F) ++ List.replicate (min (m - (F + 15)) m) 0 := by
    unfold errs
    rw [List.take_append, List.take_append, List.take_replicate, List.take_replicate, List.length_append, List.length_replicate, bvec_length, hb]
  rw [he, burst_zero _ (isLv_take (bvec_lv bs) _) (by rw [List.length_take, bvec_length]; omega)]
  constructor
  · intro h j hj hF
    have hm : (bvec bs).getD j 0 ∈ (bvec bs).take (m - F) := by
      rw [List.getD_eq_getElem?_getD, List.getElem?_eq_getElem (by rw [bvec_length]; omega), Option.getD_some]
      exact List.mem_take_iff_getElem.2 ⟨j, by rw [bvec_length]; omega, rfl⟩
    have h0 := h _ hm
    rw [bvec_get] at h0
    by_cases hb : bs.getD j false = true
    · rw [if_pos hb] at h0
      omega
    · simpa using hb
  · intro h x hx
    obtain ⟨j, hj, rfl⟩ := List.mem_take_iff_getElem.1 hx
    rw [bvec_length] at hj
    have h1 := h j (by omega) (by omega)
    have h2 := bvec_get bs j
    rw [h1, List.getD_eq_getElem?_getD, List.getElem?_eq_getElem (by rw [bvec_length]; omega)] at h2
    simpa using h2
end Go.Proofs.Ytipflkbpjnacnaa.Pure
