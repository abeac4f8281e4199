/- The pure statement of FieldBits, in plain Lean. -/
import Derived.Test.YtakemodmdhglnaaRFieldBits
import Derived.Test.YtakemodmdhglnaaQFrame
import Derived.Test.YtakemodmdhglnaaQInts04
import Derived.Test.YtakemodmdhglnaaQAwake04
namespace Go.Proofs.Ytakemodmdhglnaa.Pure
open Go.RowKit Go.Proofs.Ytakemodmdhglnaa.PA Go.Proofs.YtakemodmdhglnaaW.PrintWords Go.Proofs.YtakemodmdhglnaaW.PrintLast

theorem FieldBits : magnetolaw04_FieldBits.Pure := by
  intro a0 a1 a2 a3 a4 a5 a6 a7 a8 a9 a10 a11 _ _ h4 h5 h6 h7 h8 h9 h10 h11
  let F : Fr := ⟨a0, a1, a2, a3, a4, a5, a6, a7, a8, a9, a10, a11⟩
  have hb : F.isB := isB_of h4 h5 h6 h7 h8 h9 h10 h11
  refine ⟨400, ?_⟩
  unfold magnetolaw04_FieldBits.f
  have hc := refCheck3_eq F (k := 400) (by omega)
  by_cases hm : F.may
  · have e1 := fbits_yes F hb hm
    have e2 := fall_yes F hb hm (k := 400) (by omega)
    have e3 := refBits_eq F hb hm (k := 400) (by omega)
    have e4 := refAll_eq F hb hm (k := 400) (by omega)
    rw [if_pos hm] at hc
    simp only [F] at e1 e2 e3 e4 hc
    rw [e1, e2, hc]
    simp only [Option.bind_some, if_true]
    rw [e3]
    simp only [Option.bind_some]
    have hs := Fr.bits_small hm
    have hs2 := Fr.all_length F
    simp only [F] at hs hs2
    rw [ints04_eq _ _ (by omega) 400 (by omega), decide_eq_true rfl]
    simp only [Option.bind_some, if_true]
    rw [e4]
    simp only [Option.bind_some]
    rw [ints04_eq _ _ (by omega) 400 (by omega), decide_eq_true rfl]
    simp only [Option.bind_some, if_true]
    rw [awake04 (by omega)]
    rfl
  · have e1 := fbits_no F hb hm
    have e2 := fall_no F hb hm 400
    rw [if_neg hm] at hc
    simp only [F] at e1 e2 hc
    rw [e1, e2, hc]
    simp only [Option.bind_some]
    rw [if_neg (by decide), if_pos (by rfl), if_pos trivial, if_pos (by rfl), if_pos trivial, awake04 (by omega)]
    rfl
end Go.Proofs.Ytakemodmdhglnaa.Pure
