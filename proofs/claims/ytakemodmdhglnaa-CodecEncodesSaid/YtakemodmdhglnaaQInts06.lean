/- The statements' own comparison of two rows, as a plain equality. -/
import Derived.Test.YtakemodmdhglnaaPAx36
import Derived.Test.YtakemodmdhglnaaQCore
namespace Go.Proofs.Ytakemodmdhglnaa.Pure
open Go.RowKit Go.Proofs.Ytakemodmdhglnaa.PA Go.Proofs.YtakemodmdhglnaaW.PrintWords Go.Proofs.YtakemodmdhglnaaW.PrintLast

theorem ints06_l0 (a b : List Int) (hab : a.length = b.length) (hl : a.length ≤ 1000000000000) (d : Nat) : ∀ (k i : Nat), a.length - i = d → d < k →
    magnetolaw06_ints.l0 k a b (i : Int) = some (decide (a.drop i = b.drop i)) := by
  induction d with
  | zero =>
    intro k i hd hk
    obtain ⟨k, rfl⟩ : ∃ m, k = m + 1 := ⟨k - 1, by omega⟩
    simp only [magnetolaw06_ints.l0]
    rw [if_neg (by omega), List.drop_eq_nil_of_le (by omega), List.drop_eq_nil_of_le (by omega)]
    simp
  | succ d ih =>
    intro k i hd hk
    obtain ⟨k, rfl⟩ : ∃ m, k = m + 1 := ⟨k - 1, by omega⟩
    have hi : i < a.length := by omega
    have hi' : i < b.length := by omega
    simp only [magnetolaw06_ints.l0]
    rw [if_pos (by omega), if_pos (by omega), if_pos (by omega), wrap_in (by omega) (by omega)]
    rw [List.drop_eq_getElem_cons hi, List.drop_eq_getElem_cons hi']
    have ea : rd a (i : Int) = a[i] := by simp [rd, List.getD_eq_getElem?_getD, List.getElem?_eq_getElem hi]
    have eb : rd b (i : Int) = b[i] := by simp [rd, List.getD_eq_getElem?_getD, List.getElem?_eq_getElem hi']
    rw [ea, eb]
    by_cases h : a[i] = b[i]
    · rw [if_pos h, show (i : Int) + 1 = ((i + 1 : Nat) : Int) from by omega, ih k (i + 1) (by omega) (by omega)]
      simp only [List.cons.injEq, h, true_and]
    · rw [if_neg h]
      simp only [List.cons.injEq, h, false_and, decide_false]
theorem ints06_eq (a b : List Int) (hl : a.length ≤ 1000000000000) (k : Nat) (hk : a.length < k) : magnetolaw06_ints.f k a b = some (decide (a = b)) := by
  unfold magnetolaw06_ints.f
  by_cases h : a.length = b.length
  · rw [if_pos (by omega)]
    have := ints06_l0 a b h hl a.length k 0 (by omega) hk
    simpa using this
  · rw [if_neg (by omega)]
    have : a ≠ b := fun e => h (by rw [e])
    simp [this]
end Go.Proofs.Ytakemodmdhglnaa.Pure
