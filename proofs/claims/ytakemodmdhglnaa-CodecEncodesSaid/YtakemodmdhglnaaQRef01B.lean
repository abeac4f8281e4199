/- The document's Check of layer 1, in plain lists. -/
import Derived.Test.YtakemodmdhglnaaPAx38
import Derived.Test.YtakemodmdhglnaaQBitsB
namespace Go.Proofs.Ytakemodmdhglnaa.Pure
open Go.RowKit Go.Proofs.Ytakemodmdhglnaa.PA Go.Proofs.YtakemodmdhglnaaW.PrintWords Go.Proofs.YtakemodmdhglnaaW.PrintLast Go.Proofs.YtakemodmdhglnaaW.PrintMore
theorem refCheck_l0 (l : List Int) (hl : l.length ≤ 1000000000000) (d : Nat) : ∀ (k i : Nat), l.length - i = d → i ≤ l.length → d < k →
    magnetoref01_Check.l0 k l (i : Int) = some (chk (l.drop i) i) := by
  induction d with
  | zero =>
    intro k i hd hi hk
    obtain ⟨k, rfl⟩ : ∃ m, k = m + 1 := ⟨k - 1, by omega⟩
    simp only [magnetoref01_Check.l0]
    rw [if_neg (by omega), List.drop_eq_nil_of_le (by omega), chk]
  | succ d ih =>
    intro k i hd hi hk
    obtain ⟨k, rfl⟩ : ∃ m, k = m + 1 := ⟨k - 1, by omega⟩
    have hi' : i < l.length := by omega
    simp only [magnetoref01_Check.l0]
    rw [if_pos (by omega), if_pos (by omega), wrap_in (by omega) (by omega), show (i : Int) + 1 = ((i + 1 : Nat) : Int) from by omega, ih k (i + 1) (by omega) (by omega) (by omega)]
    rw [List.drop_eq_getElem_cons hi', chk, rd_at l i hi', show ((i + 1 : Nat) : Int) = (i : Int) + 1 from by omega]
    by_cases h0 : l[i] = 0
    · rw [if_pos h0, if_pos (.inl h0)]
    · rw [if_neg h0]
      by_cases h1 : l[i] = 1
      · rw [if_pos h1, if_pos (.inr h1)]
      · rw [if_neg h1, if_neg (by rintro (h | h); exact h0 h; exact h1 h)]
theorem refCheck_eq (l : List Int) (hl : l.length ≤ 1000000000000) {k : Nat} (hk : l.length < k) : magnetoref01_Check.f k l = some (chk l 0) := by
  unfold magnetoref01_Check.f
  have := refCheck_l0 l hl l.length k 0 (by omega) (by omega) hk
  simpa using this
end Go.Proofs.Ytakemodmdhglnaa.Pure
