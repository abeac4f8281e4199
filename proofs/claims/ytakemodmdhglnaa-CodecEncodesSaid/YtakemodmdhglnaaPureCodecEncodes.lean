/- The pure statement of CodecEncodes, in plain Lean. -/
import Derived.Test.YtakemodmdhglnaaRCodecEncodes
import Derived.Test.YtakemodmdhglnaaQCodec
import Derived.Test.YtakemodmdhglnaaQAwake06
import Derived.Test.YtakemodmdhglnaaQInts06
namespace Go.Proofs.Ytakemodmdhglnaa.Pure
open Go.RowKit Go.Proofs.Ytakemodmdhglnaa.PA Go.Proofs.YtakemodmdhglnaaW.PrintWords Go.Proofs.YtakemodmdhglnaaW.PrintLast

theorem CodecEncodes : magnetolaw06_CodecEncodes.Pure := by
  intro a0 a1 a2 a3 a4 a5 a6 a7 a8 a9 a10 a11 ack n _ _ h4 h5 h6 h7 h8 h9 h10 h11 _
  let F : Fr := ⟨a0, a1, a2, a3, a4, a5, a6, a7, a8, a9, a10, a11⟩
  have hb : F.isB := isB_of h4 h5 h6 h7 h8 h9 h10 h11
  refine ⟨1000, ?_⟩
  show magnetolaw06_CodecEncodes.f 1000 F.id F.ext F.rtr F.len F.b0 F.b1 F.b2 F.b3 F.b4 F.b5 F.b6 F.b7 ack n = some true
  clear_value F
  clear h4 h5 h6 h7 h8 h9 h10 h11
  have hj1 : ∀ (l : List Int) (e m g : Int), (F.may → l = F.enc ack ∧ e = 0 ∧ m = ((stuffed F.sumd).length : Int) + 10 ∧ g = 0) → (¬ F.may → l = [] ∧ e = 14 ∧ m = 0 ∧ g = 14) → magnetolaw06_CodecEncodes.j1 999 ack l e m g F.id F.ext F.rtr F.len F.b0 F.b1 F.b2 F.b3 F.b4 F.b5 F.b6 F.b7 = some true := by
    intro l e m g hy hn
    simp only [magnetolaw06_CodecEncodes.j1]
    rw [refCheck3_eq F (by omega)]
    simp only [Option.bind_some]
    by_cases hm : F.may
    · obtain ⟨rfl, rfl, rfl, rfl⟩ := hy hm
      have hst := stuffed_small F hm
      have hel := F.enc_length ack
      simp only [if_pos hm, if_true]
      rw [refEnc_eq F hb hm ack (by omega)]
      simp only [Option.bind_some]
      rw [ints06_eq _ _ (by omega) _ (by omega), decide_eq_true rfl]
      simp only [Option.bind_some, if_true]
      rw [if_pos (by omega), awake06 (by omega)]
      rfl
    · obtain ⟨rfl, rfl, rfl, rfl⟩ := hn hm
      simp only [if_neg hm]
      rw [if_neg (by decide), if_pos (by rfl), if_pos trivial, if_pos trivial, if_pos trivial, awake06 (by omega)]
      rfl
  have hj0 : ∀ (l : List Int) (e m g : Int), (F.may → l = F.enc ack ∧ e = 0 ∧ m = ((stuffed F.sumd).length : Int) + 10 ∧ g = 0) → (¬ F.may → l = [] ∧ e = 14 ∧ m = 0 ∧ g = 14) →
      ((codec_Longest.f 1000 n ack).bind fun q => if n < 0 then magnetolaw06_CodecEncodes.j0 1000 ack n l e m g q.1 q.2 true F.id F.ext F.rtr F.len F.b0 F.b1 F.b2 F.b3 F.b4 F.b5 F.b6 F.b7 else magnetolaw06_CodecEncodes.j0 1000 ack n l e m g q.1 q.2 (decide (n > 8)) F.id F.ext F.rtr F.len F.b0 F.b1 F.b2 F.b3 F.b4 F.b5 F.b6 F.b7) = some true := by
    intro l e m g hy hn
    have hj := hj1 l e m g hy hn
    by_cases c : n < 0 ∨ n > 8
    · rw [longest_no n ack c (by omega)]
      simp only [Option.bind_some]
      have ht : magnetolaw06_CodecEncodes.j0 1000 ack n l e m g 0 10 true F.id F.ext F.rtr F.len F.b0 F.b1 F.b2 F.b3 F.b4 F.b5 F.b6 F.b7 = some true := by
        simp only [magnetolaw06_CodecEncodes.j0, if_true]
        exact hj
      by_cases c0 : n < 0
      · rw [if_pos c0, ht]
      · rw [if_neg c0, decide_eq_true (by omega), ht]
    · rw [longest_yes n ack (by omega) (by omega) (by omega)]
      simp only [Option.bind_some]
      rw [if_neg (by omega), decide_eq_false (by omega)]
      simp only [magnetolaw06_CodecEncodes.j0]
      rw [if_neg (by decide)]
      have e8 : wrap64 (8 * n) = 8 * n := wrap_in (by omega) (by omega)
      have e34 : wrap64 (34 + 8 * n) = 34 + 8 * n := wrap_in (by omega) (by omega)
      by_cases ca : ack = true
      · simp only [if_pos ca]
        rw [e8, e34, wrap_in (x := 34 + 8 * n + 20) (by omega) (by omega), wrap_in (x := 34 + 8 * n + 20 - 1) (by omega) (by omega), Int.tdiv_eq_ediv_of_nonneg (by omega), wrap_in (x := (34 + 8 * n + 20 - 1) / 4) (by omega) (by omega), wrap_in (x := 34 + 8 * n + 20 + _) (by omega) (by omega), wrap_in (by omega) (by omega), if_pos (by omega), if_pos trivial]
        exact hj
      · simp only [if_neg ca]
        rw [e8, e34, wrap_in (x := 34 + 8 * n - 1) (by omega) (by omega), Int.tdiv_eq_ediv_of_nonneg (by omega), wrap_in (x := (34 + 8 * n - 1) / 4) (by omega) (by omega), wrap_in (x := 34 + 8 * n + _) (by omega) (by omega), wrap_in (by omega) (by omega), if_pos (by omega), if_pos trivial]
        exact hj
  unfold magnetolaw06_CodecEncodes.f
  by_cases hm : F.may
  · rw [enc_yes F hb hm ack (by omega), clen_yes F hb hm (by omega)]
    exact hj0 _ _ _ _ (fun _ => ⟨rfl, rfl, rfl, rfl⟩) (fun h => absurd hm h)
  · rw [enc_no F hb hm ack, clen_no F hb hm]
    exact hj0 _ _ _ _ (fun h => absurd h hm) (fun _ => ⟨rfl, rfl, rfl, rfl⟩)
end Go.Proofs.Ytakemodmdhglnaa.Pure
