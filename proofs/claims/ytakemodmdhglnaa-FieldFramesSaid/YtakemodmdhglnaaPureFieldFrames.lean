/- The pure statement of FieldFrames, in plain Lean. -/
import Derived.Test.YtakemodmdhglnaaPAx29
import Derived.Test.YtakemodmdhglnaaQFrameOf
import Derived.Test.YtakemodmdhglnaaQRef02B
import Derived.Test.YtakemodmdhglnaaQAwake04
import Derived.Test.YtakemodmdhglnaaQInts04
namespace Go.Proofs.Ytakemodmdhglnaa.Pure
open Go.RowKit Go.Proofs.Ytakemodmdhglnaa.PA Go.Proofs.YtakemodmdhglnaaW.PrintWords Go.Proofs.YtakemodmdhglnaaW.PrintLast

theorem refFrame_l0 {l : List Int} (h : isLv l) (hl : l.length ≤ 300) (w : List Int) (at_ n : Nat) (hw3 : 3 < w.length) (hwn : rd w 3 = 8 * (n : Int)) (hn : at_ + 8 * n ≤ l.length) (hn8 : n ≤ 8) (id : Int) (ext rtr : Bool) (len : Int) (B : Nat → Int) (hB : ∀ j, B j = valI (cut l (at_ + 8 * j) (at_ + 8 * j + 8))) (d : Nat) : ∀ (k i : Nat) (b0 b1 b2 b3 b4 b5 b6 b7 : Int), n - i = d → i ≤ n → d + 20 < k →
    magnetoref04_Frame.l0 k l w (at_ : Int) (i : Int) id ext rtr len b0 b1 b2 b3 b4 b5 b6 b7 = some (id, ext, rtr, len, gB n B i 0 b0, gB n B i 1 b1, gB n B i 2 b2, gB n B i 3 b3, gB n B i 4 b4, gB n B i 5 b5, gB n B i 6 b6, gB n B i 7 b7, 0) := by
  have hq : wrap64 (Int.tdiv (rd w 3) 8) = (n : Int) := by
    rw [hwn, Int.tdiv_eq_ediv_of_nonneg (by omega), wrap_in (by omega) (by omega)]
    omega
  induction d with
  | zero =>
    intro k i b0 b1 b2 b3 b4 b5 b6 b7 hd hi hk
    obtain ⟨k, rfl⟩ : ∃ m, k = m + 1 := ⟨k - 1, by omega⟩
    rw [magnetoref04_Frame.l0.eq_2]
    rw [if_pos (by omega), hq, if_neg (by omega)]
    have e : ∀ j b, gB n B i j b = b := fun j b => by unfold gB; rw [if_neg (by omega)]
    simp only [e]
  | succ d ih =>
    intro k i b0 b1 b2 b3 b4 b5 b6 b7 hd hi hk
    obtain ⟨k, rfl⟩ : ∃ m, k = m + 1 := ⟨k - 1, by omega⟩
    have hr := byte_range h (at_ + 8 * i) (by omega)
    have o1 : (3 : Int) < (w.length : Int) := by omega
    have o2 : (i : Int) < (n : Int) := by omega
    have o3 : (0 : Int) ≤ ((at_ + 8 * i : Nat) : Int) := by omega
    have o4 : ((at_ + 8 * i : Nat) : Int) ≤ ((at_ + 8 * i + 8 : Nat) : Int) := by omega
    have o5 : ((at_ + 8 * i + 8 : Nat) : Int) ≤ (l.length : Int) := by omega
    have o6 : (0 : Int) ≤ (i : Int) := by omega
    have o7 : (i : Int) < 8 := by omega
    have o8 : at_ + 8 * i + 8 - (at_ + 8 * i) ≤ 40 := by omega
    have o9 : at_ + 8 * i + 8 - (at_ + 8 * i) < k := by omega
    have o10 : at_ + 8 * i + 8 ≤ l.length := by omega
    have p1 : n - (i + 1) = d := by omega
    have p2 : i + 1 ≤ n := by omega
    have p3 : d + 20 < k := by omega
    have hS : i < n := by omega
    have ihk := fun b0 b1 b2 b3 b4 b5 b6 b7 => ih k (i + 1) b0 b1 b2 b3 b4 b5 b6 b7 p1 p2 p3
    have o11 : wrap64 ((i : Int) + 1) = ((i + 1 : Nat) : Int) := by
      clear hq
      rw [wrap_in (by omega) (by omega)]
      omega
    have e2 : wrap64 (((at_ + 8 * i : Nat) : Int) + 8) = ((at_ + 8 * i + 8 : Nat) : Int) := by
      clear hq o11
      rw [wrap_in (x := ((at_ + 8 * i : Nat) : Int) + 8) (by omega) (by omega)]
      omega
    have e1 : wrap64 ((at_ : Int) + wrap64 (8 * (i : Int))) = ((at_ + 8 * i : Nat) : Int) := by
      clear hq e2 o11
      rw [wrap_in (x := 8 * _) (by omega) (by omega), wrap_in (by omega) (by omega)]
      omega
    rw [magnetoref04_Frame.l0.eq_2]
    rw [if_pos o1, hq, if_pos o2, e1, e2, if_pos o3, if_pos o4, if_pos o5]
    rw [Int.toNat_natCast, Int.toNat_natCast, show (l.take (at_ + 8 * i + 8)).drop (at_ + 8 * i) = cut l (at_ + 8 * i) (at_ + 8 * i + 8) from rfl, refValue4_eq (cut_lv h _ _) (by rw [cut_length _ _ _ o10]; exact o8) (by rw [cut_length _ _ _ o10]; exact o9)]
    simp only [Option.bind_some]
    rw [if_pos o6, if_pos o7, Int.emod_eq_of_lt hr.1 hr.2, o11, ihk]
    rw [gB_step (n := n) (i := i) B 0 0 rfl b0 _ hS (hB i).symm, gB_step (n := n) (i := i) B 1 1 rfl b1 _ hS (hB i).symm, gB_step (n := n) (i := i) B 2 2 rfl b2 _ hS (hB i).symm, gB_step (n := n) (i := i) B 3 3 rfl b3 _ hS (hB i).symm, gB_step (n := n) (i := i) B 4 4 rfl b4 _ hS (hB i).symm, gB_step (n := n) (i := i) B 5 5 rfl b5 _ hS (hB i).symm, gB_step (n := n) (i := i) B 6 6 rfl b6 _ hS (hB i).symm, gB_step (n := n) (i := i) B 7 7 rfl b7 _ hS (hB i).symm]
theorem bytesOf_cut (l : List Int) : bytesOf l = mn (valI (cut l (dataAt l - 4) (dataAt l))) 8 := by
  unfold bytesOf dataAt
  split <;> rfl
theorem refFrame_j1 {l : List Int} (h : isLv l) (hl : l.length ≤ 300) (hw : whole l) (hlen : aheadN l ≤ l.length) (id : Int) (ext rtr : Bool) (k : Nat) (hk : 60 ≤ k) :
    magnetoref04_Frame.j1 k l (Wd l) id ext rtr 0 0 0 0 0 0 0 0 0 = some (id, ext, rtr, bytesOf l, gB (nB l) (byteN l) 0 0 0, gB (nB l) (byteN l) 0 1 0, gB (nB l) (byteN l) 0 2 0, gB (nB l) (byteN l) 0 3 0, gB (nB l) (byteN l) 0 4 0, gB (nB l) (byteN l) 0 5 0, gB (nB l) (byteN l) 0 6 0, gB (nB l) (byteN l) 0 7 0, 0) := by
  obtain ⟨k, rfl⟩ : ∃ m, k = m + 2 := ⟨k - 2, by omega⟩
  have hd := dl_nB h hw
  have hwl : 3 < (Wd l).length ∧ rd (Wd l) 3 = 8 * (nB l : Int) ∧ wrap64 (wrap64 (rd (Wd l) 0 + rd (Wd l) 1) + rd (Wd l) 2) = (dataAt l : Int) ∧ dataAt l ≤ l.length ∧ 19 ≤ dataAt l ∧ aheadN l = dataAt l + 8 * (nB l : Int) := by
    obtain ⟨h13, h2⟩ := hw
    unfold Wd dataAt aheadN
    rw [if_neg (by omega)]
    by_cases c : rd l 13 = 1
    · rw [if_pos c] at h2
      simp only [if_pos c]
      rw [if_neg (by omega)]
      refine ⟨by simp, by rw [← hd.1]; rfl, ?_, by omega, by omega, by rw [hd.1]; rfl⟩
      show wrap64 (wrap64 (1 + 32) + 6) = 39
      decide +kernel
    · rw [if_neg c] at h2
      simp only [if_neg c]
      rw [if_neg (by omega)]
      refine ⟨by simp, by rw [← hd.1]; rfl, ?_, by omega, by omega, by rw [hd.1]; rfl⟩
      show wrap64 (wrap64 (1 + 13) + 5) = 19
      decide +kernel
  obtain ⟨w1, w2, w3, w4, w5, w6⟩ := hwl
  have h4 := cut4 h (dataAt l - 4) (dataAt l) w4 (by omega)
  have hl0 : ∀ len : Int, magnetoref04_Frame.j2 (k + 1) l (Wd l) (dataAt l : Int) id ext rtr len 0 0 0 0 0 0 0 0 = some (id, ext, rtr, len, gB (nB l) (byteN l) 0 0 0, gB (nB l) (byteN l) 0 1 0, gB (nB l) (byteN l) 0 2 0, gB (nB l) (byteN l) 0 3 0, gB (nB l) (byteN l) 0 4 0, gB (nB l) (byteN l) 0 5 0, gB (nB l) (byteN l) 0 6 0, gB (nB l) (byteN l) 0 7 0, 0) := by
    intro len
    simp only [magnetoref04_Frame.j2]
    exact refFrame_l0 h hl (Wd l) (dataAt l) (nB l) w1 w2 (by omega) hd.2 id ext rtr len (byteN l) (fun j => rfl) (nB l) k 0 0 0 0 0 0 0 0 0 (by omega) (by omega) (by omega)
  simp only [magnetoref04_Frame.j1]
  rw [if_pos (by omega), if_pos (by omega), if_pos (by omega), w3, wrap_in (x := (dataAt l : Int) - 4) (by omega) (by omega), if_pos (by omega), if_pos (by omega), if_pos (by omega), Int.toNat_natCast, show ((dataAt l : Int) - 4).toNat = dataAt l - 4 from by omega]
  rw [show (l.take (dataAt l)).drop (dataAt l - 4) = cut l (dataAt l - 4) (dataAt l) from rfl, refValue4_eq (cut_lv h _ _) (by rw [cut_length _ _ _ w4]; omega) (by rw [cut_length _ _ _ w4]; omega)]
  simp only [Option.bind_some]
  rw [bytesOf_cut]
  by_cases c : valI (cut l (dataAt l - 4) (dataAt l)) > 8
  · rw [if_pos c, hl0, mn_gt c]
  · rw [if_neg c, hl0, mn_le c]
theorem refFrame_eq {l : List Int} (h : isLv l) (hl : l.length ≤ 300) {k : Nat} (hk : 100 ≤ k) : magnetoref04_Frame.f k l = some (frRes l) := by
  have hn : ∀ k, magnetoref04_Frame.j0 (k + 1) l true = some (frT noFr 13) := by
    intro k
    simp only [magnetoref04_Frame.j0, if_true]
    rfl
  unfold magnetoref04_Frame.f frRes
  rw [refAhead_eq h (by omega)]
  simp only [Option.bind_some]
  obtain ⟨k, rfl⟩ : ∃ m, k = m + 1 := ⟨k - 1, by omega⟩
  by_cases hw : whole l
  · have hd := dl_nB h hw
    have hp : 0 ≤ aheadN l := by unfold aheadN; rw [hd.1]; split <;> omega
    rw [if_pos hw, if_neg (by omega)]
    by_cases hs : (l.length : Int) < aheadN l
    · rw [decide_eq_true hs, hn, if_pos (.inr hs)]
    · rw [decide_eq_false hs, if_neg (c := ¬ whole l ∨ (l.length : Int) < aheadN l) (not_or.mpr ⟨fun e => e hw, hs⟩)]
      have h13 := hw.1
      have hj := refFrame_j1 h hl hw (by omega)
      have r1 := cut_bounds h 1 12 (by omega)
      rw [show (12 - 1 : Nat) = 11 from rfl, show (2 : Int) ^ 11 = 2048 from by decide] at r1
      simp only [magnetoref04_Frame.j0]
      rw [if_neg (by decide), if_pos (by omega)]
      by_cases h0 : rd l 0 = 0
      · rw [if_pos h0, if_pos h0, widths_eq h (by omega)]
        simp only [Option.bind_some]
        rw [if_pos (by omega), show (l.take 12).drop 1 = cut l 1 12 from rfl, refValue4_eq (cut_lv h _ _) (by rw [cut_length _ _ _ (by omega)]; omega) (by rw [cut_length _ _ _ (by omega)]; omega)]
        simp only [Option.bind_some]
        rw [if_pos (by omega), if_pos (by omega)]
        by_cases c : rd l 13 = 1
        · have h2 := hw.2
          rw [if_pos c] at h2
          have r2 := cut_bounds h 14 32 (by omega)
          rw [show (32 - 14 : Nat) = 18 from rfl, show (2 : Int) ^ 18 = 262144 from by decide] at r2
          rw [if_pos c, if_pos (by omega), show (l.take 32).drop 14 = cut l 14 32 from rfl, refValue4_eq (cut_lv h _ _) (by rw [cut_length _ _ _ (by omega)]; omega) (by rw [cut_length _ _ _ (by omega)]; omega)]
          simp only [Option.bind_some]
          rw [if_pos (by omega), wrap_in (x := 262144 * _) (by omega) (by omega), wrap_in (by omega) (by omega), hj _ _ _ k (by omega)]
          unfold frT frOf idOf rtrOf
          simp only [if_pos c]
        · rw [if_neg c, hj _ _ _ k (by omega)]
          unfold frT frOf idOf rtrOf
          simp only [if_neg c]
      · rw [if_neg h0, if_neg h0]
        rfl
  · rw [if_neg hw, if_pos (by decide), hn, if_pos (.inl hw)]
/-- Whether the sum in levels is right, or why that isn't known. -/
theorem fright_all {l : List Int} (h : isLv l) (hl : l.length ≤ 300) {k : Nat} (hk : 400 ≤ k) : field_Right.f k l = some (if whole l ∧ aheadN l + 15 ≤ l.length then (rightB (l.take (aheadN l + 15).toNat), 0) else (false, 13)) := by
  unfold field_Right.f
  rw [ahead_eq h]
  simp only [Option.bind_some]
  by_cases hw : whole l
  · have hd := dl_nB h hw
    have hp : 0 ≤ aheadN l ∧ aheadN l ≤ 200 := by unfold aheadN; rw [hd.1]; split <;> omega
    simp only [if_pos hw, if_true]
    rw [wrap_in (by omega) (by omega)]
    by_cases hs : (l.length : Int) < aheadN l + 15
    · rw [if_pos hs, if_neg (fun e => by omega)]
    · rw [if_neg hs, if_pos (by omega), if_pos (by omega), if_pos ⟨hw, by omega⟩, right_eq _ (by rw [List.length_take]; omega) (by rw [List.length_take]; omega)]
      rfl
  · simp only [if_neg hw]
    rw [if_neg (by decide), if_neg (fun e => hw e.1)]
theorem fright_no {l : List Int} (h : ¬ isLv l) (k : Nat) : field_Right.f k l = some (false, 10) := by
  unfold field_Right.f
  rw [ahead_no h]
  simp only [Option.bind_some]
  rw [if_neg (by decide)]
theorem FieldFrames : magnetolaw04_FieldFrames.Pure := by
  intro l0 _ _ _
  refine ⟨500, ?_⟩
  unfold magnetolaw04_FieldFrames.f
  by_cases c0 : (l0.length : Int) > 200
  · rw [if_pos c0, awake04 (by omega)]
    rfl
  rw [if_neg c0]
  obtain ⟨b, hb, hb'⟩ := levels4_eq l0 (by omega) (k := 500) (by omega)
  by_cases hl : isLv l0
  · obtain rfl : b = true := hb'.mpr hl
    have hj1 : ∀ k (is : Bool) (g : Int), 450 ≤ k → (¬ (whole l0 ∧ aheadN l0 + 15 ≤ l0.length) → is = false ∧ g = 13) → ((whole l0 ∧ aheadN l0 + 15 ≤ l0.length) → is = rightB (l0.take (aheadN l0 + 15).toNat) ∧ g = 0) → magnetolaw04_FieldFrames.j0 (k + 1) l0 is g false = some true := by
      intro k is g hk h1 h2
      obtain ⟨k, rfl⟩ : ∃ m, k = m + 1 := ⟨k - 1, by omega⟩
      have hJ : ∀ n : Int, ¬ (whole l0 ∧ aheadN l0 + 15 ≤ l0.length) → magnetolaw04_FieldFrames.j1 (k + 1) l0 is g n true = some true := by
        intro n hn
        obtain ⟨rfl, rfl⟩ := h1 hn
        simp only [magnetolaw04_FieldFrames.j1, if_true]
        rw [if_neg (by decide), awake04 (by omega)]
        rfl
      simp only [magnetolaw04_FieldFrames.j0]
      rw [if_neg (by decide), refAhead_eq hl (by omega)]
      simp only [Option.bind_some]
      by_cases hw : whole l0
      · have hd := dl_nB hl hw
        have hp : 0 ≤ aheadN l0 ∧ aheadN l0 ≤ 200 := by unfold aheadN; rw [hd.1]; split <;> omega
        rw [if_pos hw, if_neg (by omega), wrap_in (by omega) (by omega)]
        by_cases hs : (l0.length : Int) < aheadN l0 + 15
        · rw [decide_eq_true hs]
          exact hJ _ (fun e => by omega)
        · obtain ⟨rfl, rfl⟩ := h2 ⟨hw, by omega⟩
          obtain ⟨a, ha⟩ := Int.eq_ofNat_of_zero_le hp.1
          rw [decide_eq_false hs]
          simp only [magnetolaw04_FieldFrames.j1]
          rw [if_neg (by decide), if_pos (by omega), if_pos (by omega)]
          unfold magnetoref04_Sum.f
          rw [refSum_eq (isLv_take hl _) (by rw [List.length_take]; omega) (by rw [List.length_take]; omega)]
          simp only [Option.bind_some]
          rw [wrap_in (by omega) (by omega), if_pos (by omega), if_pos (by omega), ints04_eq _ _ (by rw [ofI_length]; omega) _ (by rw [ofI_length]; omega)]
          simp only [Option.bind_some]
          rw [ha, show ((a : Int) + 15).toNat = a + 15 from by omega, Int.toNat_natCast]
          have he : l0.take (a + 15) = l0.take a ++ cut l0 a (a + 15) := by
            unfold cut
            have := (List.take_append_drop a (l0.take (a + 15))).symm
            rwa [List.take_take, Nat.min_eq_left (by omega)] at this
          rw [show (l0.take (a + 15)).drop a = cut l0 a (a + 15) from rfl, he, rightB_append _ _ (by rw [cut_length _ _ _ (by omega)]; omega), decide_eq_true (isLv_take hl a), decide_eq_true (cut_lv hl _ _), Bool.true_and, Bool.true_and]
          rw [if_pos, if_pos trivial, awake04 (by omega)]
          · rfl
          · rw [beq_iff_eq]
            by_cases q : cut l0 a (a + 15) = ofI ((crcN (l0.take a) : Nat) : Int) 15
            · rw [decide_eq_true q, decide_eq_true q.symm]
            · rw [decide_eq_false q, decide_eq_false (fun e => q e.symm)]
      · rw [if_neg hw, if_pos (by decide)]
        exact hJ _ (fun e => hw e.1)
    rw [fframe_lv hl (by omega) (by omega), fright_all hl (by omega) (by omega), hb]
    simp only [Option.bind_some, if_true]
    rw [refFrame_eq hl (by omega) (by omega)]
    simp only [Option.bind_some, beq_self_eq_true, Bool.not_true, Bool.or_self, bne_self_eq_false]
    rw [if_neg (by decide)]
    by_cases q : whole l0 ∧ aheadN l0 + 15 ≤ l0.length
    · rw [if_pos q]
      exact hj1 499 _ _ (by omega) (fun e => absurd q e) (fun _ => ⟨rfl, rfl⟩)
    · rw [if_neg q]
      exact hj1 499 _ _ (by omega) (fun _ => ⟨rfl, rfl⟩) (fun e => absurd e q)
  · obtain rfl : b = false := by
      cases b
      · rfl
      · exact absurd (hb'.mp rfl) hl
    rw [fframe_no hl, fright_no hl, hb]
    simp only [Option.bind_some]
    rw [if_neg (by decide), if_pos (by rfl)]
    simp only [frT]
    rw [if_pos trivial, if_neg (by decide), if_pos trivial, awake04 (by omega)]
    rfl
end Go.Proofs.Ytakemodmdhglnaa.Pure
