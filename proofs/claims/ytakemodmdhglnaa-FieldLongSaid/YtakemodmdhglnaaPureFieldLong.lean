/- The pure statement of FieldLong, in plain Lean. -/
import Derived.Test.YtakemodmdhglnaaRFieldLong
import Derived.Test.YtakemodmdhglnaaQWhole
import Derived.Test.YtakemodmdhglnaaQAwake04
namespace Go.Proofs.Ytakemodmdhglnaa.Pure
open Go.RowKit Go.Proofs.Ytakemodmdhglnaa.PA Go.Proofs.YtakemodmdhglnaaW.PrintWords Go.Proofs.YtakemodmdhglnaaW.PrintLast

theorem set_mid (A D B : List Int) (i : Nat) (v : Int) (hi : i < D.length) : (A ++ (D ++ B)).set (A.length + i) v = A ++ (D.set i v ++ B) := by
  rw [List.set_append, if_neg (by omega), show A.length + i - A.length = i from by omega, List.set_append, if_pos hi]
theorem long_step (F : Fr) (l2 D B : List Int) (t : Int) (i k : Nat) (hD : D.length = 4) (hi : i < 4) (hp : F.pre.length ≤ 100) (hs : (F.pre ++ (D ++ B)).length ≤ 1000) :
    magnetolaw04_FieldLong.l0 (k + 1) t l2 (F.pre ++ (D ++ B)) (F.pre.length : Int) (i : Int) F.id F.ext F.rtr F.len F.b0 F.b1 F.b2 F.b3 F.b4 F.b5 F.b6 F.b7 = magnetolaw04_FieldLong.l0 k t l2 (F.pre ++ (D.set i (Int.tmod (shr .i64 t (3 - (i : Int))) 2) ++ B)) (F.pre.length : Int) ((i + 1 : Nat) : Int) F.id F.ext F.rtr F.len F.b0 F.b1 F.b2 F.b3 F.b4 F.b5 F.b6 F.b7 := by
  rw [magnetolaw04_FieldLong.l0.eq_2]
  rw [if_pos (by omega), wrap_in (x := 3 - (i : Int)) (by omega) (by omega), if_pos (by omega), wrap_in (x := (F.pre.length : Int) + i) (by omega) (by omega), if_pos (by omega), if_pos (by rw [List.length_append, List.length_append, hD]; omega)]
  rw [wrap_in (by omega) (by omega), show ((F.pre.length : Int) + i).toNat = F.pre.length + i from by omega, set_mid _ _ _ i _ (by omega)]
  rfl
theorem told_bits {t : Int} (h0 : 9 ≤ t) (h1 : t ≤ 15) (e0 e1 e2 e3 : Int) :
    (((([e0, e1, e2, e3] : List Int).set 0 (Int.tmod (shr .i64 t (3 - ((0 : Nat) : Int))) 2)).set 1 (Int.tmod (shr .i64 t (3 - ((1 : Nat) : Int))) 2)).set 2 (Int.tmod (shr .i64 t (3 - ((2 : Nat) : Int))) 2)).set 3 (Int.tmod (shr .i64 t (3 - ((3 : Nat) : Int))) 2) = ofI t 4 := by
  have h : t = 9 ∨ t = 10 ∨ t = 11 ∨ t = 12 ∨ t = 13 ∨ t = 14 ∨ t = 15 := by omega
  simp only [List.set_cons_zero, List.set_cons_succ]
  rcases h with rfl | rfl | rfl | rfl | rfl | rfl | rfl <;> decide +kernel
theorem FieldLong : magnetolaw04_FieldLong.Pure := by
  intro a0 a1 a2 a3 a4 a5 a6 a7 a8 a9 a10 a11 t l2 _ _ h4 h5 h6 h7 h8 h9 h10 h11 _ _ _
  let F : Fr := ⟨a0, a1, a2, a3, a4, a5, a6, a7, a8, a9, a10, a11⟩
  have hb : F.isB := isB_of h4 h5 h6 h7 h8 h9 h10 h11
  refine ⟨1000, ?_⟩
  show magnetolaw04_FieldLong.f 1000 F.id F.ext F.rtr F.len F.b0 F.b1 F.b2 F.b3 F.b4 F.b5 F.b6 F.b7 t l2 = some true
  clear_value F
  clear h4 h5 h6 h7 h8 h9 h10 h11
  unfold magnetolaw04_FieldLong.f
  by_cases hm : F.may
  · have hJ : magnetolaw04_FieldLong.j0 1000 t l2 F.bits 0 true F.id F.ext F.rtr F.len F.b0 F.b1 F.b2 F.b3 F.b4 F.b5 F.b6 F.b7 = some true := by
      simp only [magnetolaw04_FieldLong.j0, if_true]
      rw [awake04 (by omega)]
      rfl
    rw [fbits_yes F hb hm]
    simp only [Option.bind_some, if_true]
    by_cases c0 : t < 9
    · rw [if_pos c0]
      exact hJ
    rw [if_neg c0]
    by_cases c1 : t > 15
    · rw [if_pos c1]
      exact hJ
    rw [if_neg c1]
    by_cases c2 : F.len = 8
    · rw [if_pos c2]
      by_cases c3 : (l2.length : Int) > 20
      · rw [if_pos c3]
        exact hJ
      rw [if_neg c3]
      obtain ⟨b, hbl, hb'⟩ := levels4_eq l2 (by omega) (k := 1000) (by omega)
      rw [hbl]
      simp only [Option.bind_some]
      cases b
      · exact hJ
      · have hl2 : isLv l2 := hb'.mp rfl
        have hsm := F.bits_small hm
        have hbl := F.bits_lv
        have hpl := F.pre_length
        have hp35 : F.pre.length ≤ 35 := by rw [hpl]; split <;> omega
        have hpre := F.bits_pre hm
        have h4v : ∃ e0 e1 e2 e3, ofI F.len 4 = [e0, e1, e2, e3] := ⟨_, _, _, _, by rfl⟩
        obtain ⟨e0, e1, e2, e3, h4v⟩ := h4v
        have hL : ∀ k, magnetolaw04_FieldLong.l0 (k + 4) t l2 F.bits (F.pre.length : Int) 0 F.id F.ext F.rtr F.len F.b0 F.b1 F.b2 F.b3 F.b4 F.b5 F.b6 F.b7 = magnetolaw04_FieldLong.l0 k t l2 (F.pre ++ (ofI t 4 ++ F.dat)) (F.pre.length : Int) 4 F.id F.ext F.rtr F.len F.b0 F.b1 F.b2 F.b3 F.b4 F.b5 F.b6 F.b7 := by
          intro k
          rw [hpre, h4v]
          have hs : ∀ D : List Int, D.length = 4 → (F.pre ++ (D ++ F.dat)).length ≤ 1000 := by
            intro D hD
            rw [hpre] at hsm
            rw [List.length_append, List.length_append, ofI_length] at hsm
            rw [List.length_append, List.length_append, hD]
            omega
          have s0 := long_step F l2 [e0, e1, e2, e3] F.dat t 0 (k + 3) rfl (by omega) (by omega) (hs _ rfl)
          have s1 := long_step F l2 ([e0, e1, e2, e3].set 0 (Int.tmod (shr .i64 t (3 - ((0 : Nat) : Int))) 2)) F.dat t 1 (k + 2) rfl (by omega) (by omega) (hs _ rfl)
          have s2 := long_step F l2 (([e0, e1, e2, e3].set 0 (Int.tmod (shr .i64 t (3 - ((0 : Nat) : Int))) 2)).set 1 (Int.tmod (shr .i64 t (3 - ((1 : Nat) : Int))) 2)) F.dat t 2 (k + 1) rfl (by omega) (by omega) (hs _ rfl)
          have s3 := long_step F l2 ((([e0, e1, e2, e3].set 0 (Int.tmod (shr .i64 t (3 - ((0 : Nat) : Int))) 2)).set 1 (Int.tmod (shr .i64 t (3 - ((1 : Nat) : Int))) 2)).set 2 (Int.tmod (shr .i64 t (3 - ((2 : Nat) : Int))) 2)) F.dat t 3 k rfl (by omega) (by omega) (hs _ rfl)
          rw [told_bits (by omega) (by omega)] at s3
          exact s0.trans (s1.trans (s2.trans s3))
        have hmn : mn (valI (ofI t 4)) 8 = F.len := by
          rw [valI_ofI, show (2 : Int) ^ 4 = 16 from by decide, mn_gt (by omega), c2]
        have hX : isLv (F.pre ++ (ofI t 4 ++ F.dat)) := isLv_append.mpr ⟨F.pre_lv, isLv_append.mpr ⟨ofI_lv _ _, F.dat_lv⟩⟩
        have hXl : (F.pre ++ (ofI t 4 ++ F.dat)).length ≤ 200 := by
          rw [hpre] at hsm
          rw [List.length_append, List.length_append, ofI_length] at hsm ⊢
          omega
        have hA : field_Ahead.f (F.pre ++ (ofI t 4 ++ F.dat)) = some (((F.pre ++ (ofI t 4 ++ F.dat)).length : Int), 0) := by
          have hd := F.dat_length hm
          rw [ahead_eq hX, if_pos (pre_whole (ofI_length _ _)), pre_ahead (ofI_length _ _), hmn, List.length_append, List.length_append, ofI_length]
          congr 2
          split at hd <;> simp [*] <;> omega
        have hF : ∀ T, isLv T → T.length ≤ 20 → field_Frame.f 993 (F.pre ++ (ofI t 4 ++ F.dat) ++ T) = some (frT F 0) := by
          intro T hT hTl
          rw [fframe_lv (isLv_append.mpr ⟨hX, hT⟩) (by rw [List.length_append]; omega) (by omega), show F.pre ++ (ofI t 4 ++ F.dat) ++ T = F.pre ++ (ofI t 4 ++ (F.dat ++ T)) from by simp, whole_res hb hm (ofI_length _ _) hmn]
        have hF0 := hF [] isLv_nil (by simp)
        rw [List.append_nil] at hF0
        have hend : magnetolaw04_FieldLong.l0 994 t l2 (F.pre ++ (ofI t 4 ++ F.dat)) (F.pre.length : Int) 4 F.id F.ext F.rtr F.len F.b0 F.b1 F.b2 F.b3 F.b4 F.b5 F.b6 F.b7 = some true := by
          rw [magnetolaw04_FieldLong.l0.eq_2]
          rw [if_neg (by omega), hA]
          (try simp only [Option.bind_some])
          rw [hF0]
          (try simp only [Option.bind_some])
          rw [if_pos (by simp only [List.length_nil]; omega)]
          (try simp only [Option.bind_some])
          rw [List.nil_append, if_pos (by omega), hF l2 hl2 (by omega)]
          simp only [Option.bind_some, if_true, frT, beq_self_eq_true, Bool.and_self]
          rw [awake04 (by omega)]
          rfl
        have hj1 : magnetolaw04_FieldLong.j1 999 t l2 F.bits (F.pre.length : Int) F.id F.ext F.rtr F.len F.b0 F.b1 F.b2 F.b3 F.b4 F.b5 F.b6 F.b7 = some true := by
          simp only [magnetolaw04_FieldLong.j1]
          rw [wrap_in (by omega) (by omega), if_neg, hL 994]
          · exact hend
          · rw [hpre, List.length_append, List.length_append, ofI_length]
            omega
        simp only [magnetolaw04_FieldLong.j0]
        rw [if_neg (by decide)]
        by_cases c : F.ext = true
        · rw [if_pos c]
          rw [if_pos c] at hpl
          rw [hpl] at hj1
          exact hj1
        · rw [if_neg c]
          rw [if_neg c] at hpl
          rw [hpl] at hj1
          exact hj1
    · rw [if_neg c2]
      exact hJ
  · rw [fbits_no F hb hm]
    simp only [Option.bind_some]
    rw [if_neg (by decide)]
    simp only [magnetolaw04_FieldLong.j0, if_true]
    rw [if_neg (by decide), if_pos (by rfl), awake04 (by omega)]
    rfl
end Go.Proofs.Ytakemodmdhglnaa.Pure
