/- Layer 1's functions, as far as a field's laws reach them, in plain terms. -/
import Derived.WalkSmall
import Derived.Lib.Strings
import Derived.OpenShut
import Derived.Test.YtakemodmdhglnaaQCore
import Derived.Test.YtakemodmdhglnaaPAx14
import Derived.Test.YtakemodmdhglnaaPAx4
import Derived.Test.YtakemodmdhglnaaPAx8
namespace Go.Proofs.Ytakemodmdhglnaa.Pure
open Go.RowKit Go.Proofs.Ytakemodmdhglnaa.PA Go.Proofs.YtakemodmdhglnaaW.PrintWords Go.Proofs.YtakemodmdhglnaaW.PrintLast Go.Proofs.YtakemodmdhglnaaW.PrintMore
theorem chk_of_lv {l : List Int} (h : isLv l) : ∀ i, chk l i = -1 := by
  induction l with
  | nil => intro i; rfl
  | cons x t ih =>
    intro i
    rw [isLv_cons] at h
    rw [chk, if_pos h.1]
    exact ih h.2 _
theorem chk_range (l : List Int) : ∀ i : Int, chk l i = -1 ∨ (i ≤ chk l i ∧ chk l i < i + l.length) := by
  induction l with
  | nil => intro i; exact .inl rfl
  | cons x t ih =>
    intro i
    rw [chk]
    split
    · rcases ih (i + 1) with h | h
      · exact .inl h
      · refine .inr ?_
        rw [List.length_cons]
        omega
    · refine .inr ?_
      rw [List.length_cons]
      omega
theorem chk_iff (l : List Int) : chk l 0 < 0 ↔ isLv l := by
  constructor
  · intro h x hx
    exact chk_all l 0 (by omega) h x hx
  · intro h
    rw [chk_of_lv h]
    omega
theorem chk_ge {l : List Int} (h : ¬ isLv l) : 0 ≤ chk l 0 ∧ chk l 0 < l.length := by
  rcases chk_range l 0 with h1 | h1
  · exact absurd ((chk_iff l).1 (by omega)) h
  · omega
theorem check_lv {l : List Int} (h : isLv l) : bits_Check.f l = some (-1) := by unfold bits_Check.f; rw [chk_of_lv h]
theorem check_eq (l : List Int) : bits_Check.f l = some (chk l 0) := rfl
theorem rd_at (l : List Int) (i : Nat) (hi : i < l.length) : rd l (i : Int) = l[i] := by simp [rd, List.getD_eq_getElem?_getD, List.getElem?_eq_getElem hi]
theorem rd_lv {l : List Int} (h : isLv l) (i : Nat) (hi : i < l.length) : rd l (i : Int) = 0 ∨ rd l (i : Int) = 1 := by
  rw [rd_at l i hi]; exact h _ (List.getElem_mem hi)
theorem shr_at (n : Int) (i : Nat) (hi : i ≤ 64) : shr .u64 n (i : Int) = n / 2 ^ i := by
  unfold shr
  rw [Int.toNat_natCast, Nat.min_eq_left (by simpa [IntKind.bits] using hi)]
theorem bit_at (n : Int) (i : Nat) (h0 : 0 ≤ n) (h1 : n < 18446744073709551616) (hi : i ≤ 64) : Go.bits .and .u64 (shr .u64 n (i : Int)) 1 = n / 2 ^ i % 2 := by
  rw [shr_at n i hi]
  have hp := pow_pos i
  refine and_one_u64 _ (Int.ediv_nonneg h0 (by omega)) ?_
  have : n / 2 ^ i ≤ n := Int.ediv_le_self _ h0
  omega
theorem of_l0 (n : Int) (w : Nat) (h0 : 0 ≤ n) (h1 : n < 18446744073709551616) (hw : w ≤ 64) (d : Nat) : ∀ (k i : Nat) (o : List Int), o.length = w → w - i = d → i ≤ w → d < k → (∀ j, w - i ≤ j → j < w → o.getD j 0 = n / 2 ^ (w - 1 - j) % 2) →
    bits_Of.l0 k n (w : Int) o (w : Int) (i : Int) = some (ofI n w, 0) := by
  induction d with
  | zero =>
    intro k i o ho hd hi hk hg
    obtain ⟨k, rfl⟩ : ∃ m, k = m + 1 := ⟨k - 1, by omega⟩
    simp only [bits_Of.l0]
    rw [if_neg (by omega)]
    have : o = ofI n w := by
      refine list_ext (by rw [ho, ofI_length]) fun j hj => ?_
      rw [hg j (by omega) (by omega), ofI_get w n j (by omega)]
    rw [this]
  | succ d ih =>
    intro k i o ho hd hi hk hg
    obtain ⟨k, rfl⟩ : ∃ m, k = m + 1 := ⟨k - 1, by omega⟩
    have e1 : wrap64 ((w : Int) - 1) = (w : Int) - 1 := wrap_in (by omega) (by omega)
    have e2 : wrap64 ((w : Int) - 1 - i) = (w : Int) - 1 - i := wrap_in (by omega) (by omega)
    simp only [bits_Of.l0]
    rw [e1, e2]
    rw [if_pos (by omega), if_pos (by omega), if_pos (by omega), if_pos (by omega), wrap_in (x := (i : Int) + 1) (by omega) (by omega)]
    rw [bit_at n i h0 h1 (by omega), wrap_in (by omega) (by omega)]
    rw [show (i : Int) + 1 = ((i + 1 : Nat) : Int) from by omega, show ((w : Int) - 1 - i).toNat = w - 1 - i by omega]
    refine ih k (i + 1) _ (by simp [ho]) (by omega) (by omega) (by omega) fun j hj1 hj2 => ?_
    rw [getD_set _ _ _ _ (by omega)]
    by_cases e : w - 1 - i = j
    · rw [if_pos e, show w - 1 - j = i by omega]
    · rw [if_neg e]
      exact hg j (by omega) hj2
theorem of_yes (n : Int) (w : Nat) (h0 : 0 ≤ n) (h1 : n < 18446744073709551616) (hw : w ≤ 64) {k : Nat} (hk : w + 1 < k) : bits_Of.f k n (w : Int) = some (ofI n w, 0) := by
  obtain ⟨k, rfl⟩ : ∃ m, k = m + 1 := ⟨k - 1, by omega⟩
  unfold bits_Of.f
  rw [if_neg (by omega)]
  have e : decide ((w : Int) > 64) = false := decide_eq_false (by omega)
  rw [e]
  simp only [bits_Of.j0]
  rw [if_neg (by simp), if_pos (by omega), if_pos (by omega), Int.toNat_natCast]
  exact of_l0 n w h0 h1 hw w k 0 _ (by simp) (by omega) (by omega) (by omega) (fun j hj1 hj2 => by omega)
theorem of_no (n w : Int) (h : w < 0 ∨ w > 64) {k : Nat} (hk : 0 < k) : bits_Of.f k n w = some ([], 10) := by
  obtain ⟨k, rfl⟩ : ∃ m, k = m + 1 := ⟨k - 1, by omega⟩
  unfold bits_Of.f
  by_cases hn : w < 0
  · rw [if_pos hn]
    simp [bits_Of.j0]
  · rw [if_neg hn]
    have e : decide (w > 64) = true := decide_eq_true (by omega)
    rw [e]
    simp [bits_Of.j0]
theorem u64_wrap {x : Int} (h0 : 0 ≤ x) (h1 : x < 18446744073709551616) : IntKind.u64.wrap x = x := by
  simp [IntKind.wrap, IntKind.bits, IntKind.signed]; omega
theorem u64_wrap_mod (x : Int) : IntKind.u64.wrap x = x % 18446744073709551616 := by
  simp [IntKind.wrap, IntKind.bits, IntKind.signed]
theorem or_add (a x : Int) (h0 : 0 ≤ a) (h1 : 2 * a < 18446744073709551616) (hx : x = 0 ∨ x = 1) : Go.bits .or .u64 (2 * a) x = 2 * a + x := by
  rw [u64_or _ _ (by omega) (by omega) (by omega) (by omega), nat_join 1 _ _ (by omega) (by omega)]
  omega
theorem value_l0 (l : List Int) (h : isLv l) (hl : l.length ≤ 64) (d : Nat) : ∀ (k i : Nat), l.length - i = d → i ≤ l.length → d < k →
    bits_Value.l0 k (valI (l.take i)) l (l.length : Int) (i : Int) = some (valI l, 0) := by
  induction d with
  | zero =>
    intro k i hd hi hk
    obtain ⟨k, rfl⟩ : ∃ m, k = m + 1 := ⟨k - 1, by omega⟩
    simp only [bits_Value.l0]
    rw [if_neg (by omega), List.take_of_length_le (by omega)]
  | succ d ih =>
    intro k i hd hi hk
    obtain ⟨k, rfl⟩ : ∃ m, k = m + 1 := ⟨k - 1, by omega⟩
    have hi' : i < l.length := by omega
    have hx := rd_lv h i hi'
    have hb := valI_bounds (isLv_take h i)
    rw [List.length_take, Nat.min_eq_left (by omega)] at hb
    have hp : (2 : Int) ^ i * 2 ≤ 18446744073709551616 := by
      have h1 : (2 : Nat) ^ (i + 1) ≤ 2 ^ 64 := Nat.pow_le_pow_right (by omega) (by omega)
      have h2 : ((2 : Nat) ^ (i + 1) : Int) = (2 : Int) ^ i * 2 := by rw [Int.pow_succ]; rfl
      have h3 : (((2 : Nat) ^ (i + 1) : Nat) : Int) ≤ ((2 ^ 64 : Nat) : Int) := Int.ofNat_le.2 h1
      have h4 : (((2 : Nat) ^ (i + 1) : Nat) : Int) = (2 : Int) ^ i * 2 := by rw [← Int.pow_succ]; simp
      rw [h4] at h3
      simpa using h3
    simp only [bits_Value.l0]
    rw [if_pos (by omega), if_pos (by omega), if_pos (by omega), wrap_in (x := (i : Int) + 1) (by omega) (by omega)]
    rw [u64_wrap (x := rd l (i : Int)) (by omega) (by omega), u64_wrap (by omega) (by omega), Int.mul_comm _ 2, or_add _ _ hb.1 (by omega) hx]
    have e : 2 * valI (l.take i) + rd l (i : Int) = valI (l.take (i + 1)) := by
      rw [List.take_succ_eq_append_getElem hi', valI_snoc, rd_at l i hi']
    rw [e, show (i : Int) + 1 = ((i + 1 : Nat) : Int) from by omega]
    exact ih k (i + 1) (by omega) (by omega) (by omega)
theorem value_lv {l : List Int} (h : isLv l) (hl : l.length ≤ 64) {k : Nat} (hk : l.length < k) : bits_Value.f k l = some (valI l, 0) := by
  unfold bits_Value.f
  rw [if_neg (by omega), check_lv h]
  simp only [Option.bind_some]
  rw [if_neg (by omega)]
  have := value_l0 l h hl l.length k 0 (by omega) (by omega) hk
  simpa [valI] using this
theorem value_long {l : List Int} (hl : 64 < l.length) (k : Nat) : bits_Value.f k l = some (0, 12) := by
  unfold bits_Value.f
  rw [if_pos (by omega)]
theorem value_no {l : List Int} (h : ¬ isLv l) (hl : l.length ≤ 64) (k : Nat) : bits_Value.f k l = some (0, 10) := by
  unfold bits_Value.f
  rw [if_neg (by omega), check_eq]
  simp only [Option.bind_some]
  rw [if_pos (by have := chk_ge h; omega)]
theorem u64_range {n : Int} (h : (Lit.int .u64 n).wf = true) : 0 ≤ n ∧ n < 18446744073709551616 := by
  have := bounds_u64 h
  omega
theorem pow64 : (2 : Int) ^ 64 = 18446744073709551616 := by decide +kernel
theorem pow_le {a b : Nat} (h : a ≤ b) : (2 : Int) ^ a ≤ 2 ^ b := by
  have h1 : (2 : Nat) ^ a ≤ 2 ^ b := Nat.pow_le_pow_right (by omega) h
  have h3 : (((2 : Nat) ^ a : Nat) : Int) ≤ ((2 ^ b : Nat) : Int) := Int.ofNat_le.2 h1
  simpa using h3
theorem pow_le63 {w : Nat} (h : w < 64) : (2 : Int) ^ w ≤ 9223372036854775808 := by
  have := pow_le (show w ≤ 63 by omega)
  have e : (2 : Int) ^ 63 = 9223372036854775808 := by decide +kernel
  omega
theorem shl_one {w : Nat} (h : w < 64) : shl .u64 1 (w : Int) = 2 ^ w := by
  have h1 := pow_le63 h
  have h2 := pow_pos w
  unfold shl
  rw [Int.toNat_natCast, Nat.min_eq_left (by simp [IntKind.bits]; omega), Int.one_mul, u64_wrap (by omega) (by omega)]
end Go.Proofs.Ytakemodmdhglnaa.Pure
