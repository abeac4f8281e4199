-- PRINTED by print.py (a twelfth state) out of the translation. Not trusted: Lean checks it.
import Derived.Test.YtclmogjmmcjppaaPAx0
import Derived.Test.YtclmogjmmcjppaaPAx2
import Derived.Test.YtclmogjmmcjppaaPAx3
import Derived.Test.YtclmogjmmcjppaaPAx4
namespace Go.Proofs.Ytclmogjmmcjppaa.PA
open Go.RowKit Go.Proofs.YtclmogjmmcjppaaW.PrintWords Go.Proofs.YtclmogjmmcjppaaW.PrintLast Go.Proofs.YtclmogjmmcjppaaW.PrintMore
attribute [local go_sem] max2_int min2_int max_two min_two max_three min_three max_four min_four   -- for this text's walks alone
set_option linter.unusedVariables false
set_option linter.unusedSimpArgs false

/-! ### magnetolaw01_BitsNumbers: function 4 -/
mutual
def magnetolaw01_BitsNumbers.j0 : Nat → Int → Int → List Int → List Int → Int → Bool → Option (Bool)
  | 0, _, _, _, _, _, _ => none
  | k + 1, x0, x1, x2, x7, x8, x26 => if x26 = true then (if (x7.length : Int) = 0 then (if x8 = 10 then (magnetolaw01_BitsNumbers.j1 k x2) else (none)) else (none)) else (if x8 = 0 then ((magnetoref01_Of.f k x0 x1).bind fun t193 => ((magnetolaw01_ints.f k x7 t193).bind fun t196 => (if t196 = true then (magnetolaw01_BitsNumbers.j1 k x2) else (none)))) else (none))
def magnetolaw01_BitsNumbers.j1 : Nat → List Int → Option (Bool)
  | 0, _ => none
  | k + 1, x2 => (bits_Value.f k x2).bind fun bt197 => (if (x2.length : Int) > 64 then (if bt197.1 = 0 then (if bt197.2 = 12 then ((magnetolaw01_awake.f k).bind fun t199 => (some t199)) else (none)) else (none)) else ((magnetoref01_Check.f k x2).bind fun t200 => (if t200 ≥ 0 then (if bt197.1 = 0 then (if bt197.2 = 10 then ((magnetolaw01_awake.f k).bind fun t201 => (some t201)) else (none)) else (none)) else ((magnetoref01_Value.f k x2).bind fun t202 => (if bt197.1 = t202 then (if bt197.2 = 0 then ((magnetolaw01_awake.f k).bind fun t203 => (some t203)) else (none)) else (none))))))
end
def magnetolaw01_BitsNumbers.f (k : Nat) (a0 : Int) (a1 : Int) (l2 : List Int) : Option (Bool) := if (l2.length : Int) > 300 then ((magnetolaw01_awake.f k).bind fun t188 => (some t188)) else ((bits_Of.f k a0 a1).bind fun bt189 => (if a1 < 0 then (magnetolaw01_BitsNumbers.j0 k a0 a1 l2 bt189.1 bt189.2 true) else (magnetolaw01_BitsNumbers.j0 k a0 a1 l2 bt189.1 bt189.2 (decide (a1 > 64)))))
theorem magnetolaw01_BitsNumbers.mono_l : ∀ k, (∀ y0 y1 y2 y3 y4 y5, LeO (magnetolaw01_BitsNumbers.j0 k y0 y1 y2 y3 y4 y5) (magnetolaw01_BitsNumbers.j0 (k + 1) y0 y1 y2 y3 y4 y5)) ∧ (∀ y0, LeO (magnetolaw01_BitsNumbers.j1 k y0) (magnetolaw01_BitsNumbers.j1 (k + 1) y0))
  | 0 => ⟨fun _ _ _ _ _ _ r h => by simp [magnetolaw01_BitsNumbers.j0] at h, fun _ r h => by simp [magnetolaw01_BitsNumbers.j1] at h⟩
  | k + 1 => by
    obtain ⟨ih0, ih1⟩ := magnetolaw01_BitsNumbers.mono_l k
    refine ⟨?_, ?_⟩
    · intro y0 y1 y2 y3 y4 y5
      unfold magnetolaw01_BitsNumbers.j0
      repeat' first
      | (with_reducible exact ih0 _ _ _ _ _ _)
      | (with_reducible exact ih1 _)
      | (with_reducible exact bits_Of.mono _ _ _)
      | (with_reducible exact bits_Value.mono _ _)
      | (with_reducible exact magnetolaw01_awake.mono _)
      | (with_reducible exact magnetolaw01_ints.mono _ _ _)
      | (with_reducible exact magnetoref01_Check.mono _ _)
      | (with_reducible exact magnetoref01_Of.mono _ _ _)
      | (with_reducible exact magnetoref01_Value.mono _ _)
      | (with_reducible exact LeO.refl _)
      | (with_reducible exact LeO.none _)
      | (with_reducible refine LeO.ite ?_ ?_)
      | (with_reducible refine LeO.bind ?_ (fun _ => ?_))
      | exact ih0 _ _ _ _ _ _
      | exact ih1 _
      | exact bits_Of.mono _ _ _
      | exact bits_Value.mono _ _
      | exact magnetolaw01_awake.mono _
      | exact magnetolaw01_ints.mono _ _ _
      | exact magnetoref01_Check.mono _ _
      | exact magnetoref01_Of.mono _ _ _
      | exact magnetoref01_Value.mono _ _
      | exact LeO.none _
      | refine LeO.ite ?_ ?_
      | refine LeO.bind ?_ (fun _ => ?_)
    · intro y0
      unfold magnetolaw01_BitsNumbers.j1
      repeat' first
      | (with_reducible exact ih0 _ _ _ _ _ _)
      | (with_reducible exact ih1 _)
      | (with_reducible exact bits_Of.mono _ _ _)
      | (with_reducible exact bits_Value.mono _ _)
      | (with_reducible exact magnetolaw01_awake.mono _)
      | (with_reducible exact magnetolaw01_ints.mono _ _ _)
      | (with_reducible exact magnetoref01_Check.mono _ _)
      | (with_reducible exact magnetoref01_Of.mono _ _ _)
      | (with_reducible exact magnetoref01_Value.mono _ _)
      | (with_reducible exact LeO.refl _)
      | (with_reducible exact LeO.none _)
      | (with_reducible refine LeO.ite ?_ ?_)
      | (with_reducible refine LeO.bind ?_ (fun _ => ?_))
      | exact ih0 _ _ _ _ _ _
      | exact ih1 _
      | exact bits_Of.mono _ _ _
      | exact bits_Value.mono _ _
      | exact magnetolaw01_awake.mono _
      | exact magnetolaw01_ints.mono _ _ _
      | exact magnetoref01_Check.mono _ _
      | exact magnetoref01_Of.mono _ _ _
      | exact magnetoref01_Value.mono _ _
      | exact LeO.none _
      | refine LeO.ite ?_ ?_
      | refine LeO.bind ?_ (fun _ => ?_)
theorem magnetolaw01_BitsNumbers.mono : ∀ a0 a1 a2 k, LeO (magnetolaw01_BitsNumbers.f k a0 a1 a2) (magnetolaw01_BitsNumbers.f (k + 1) a0 a1 a2) := by
  intro a0 a1 a2 k
  obtain ⟨ih0, ih1⟩ := magnetolaw01_BitsNumbers.mono_l k
  unfold magnetolaw01_BitsNumbers.f
  repeat' first
      | (with_reducible exact ih0 _ _ _ _ _ _)
      | (with_reducible exact ih1 _)
      | (with_reducible exact bits_Of.mono _ _ _)
      | (with_reducible exact bits_Value.mono _ _)
      | (with_reducible exact magnetolaw01_awake.mono _)
      | (with_reducible exact magnetolaw01_ints.mono _ _ _)
      | (with_reducible exact magnetoref01_Check.mono _ _)
      | (with_reducible exact magnetoref01_Of.mono _ _ _)
      | (with_reducible exact magnetoref01_Value.mono _ _)
      | (with_reducible exact LeO.refl _)
      | (with_reducible exact LeO.none _)
      | (with_reducible refine LeO.ite ?_ ?_)
      | (with_reducible refine LeO.bind ?_ (fun _ => ?_))
      | exact ih0 _ _ _ _ _ _
      | exact ih1 _
      | exact bits_Of.mono _ _ _
      | exact bits_Value.mono _ _
      | exact magnetolaw01_awake.mono _
      | exact magnetolaw01_ints.mono _ _ _
      | exact magnetoref01_Check.mono _ _
      | exact magnetoref01_Of.mono _ _ _
      | exact magnetoref01_Value.mono _ _
      | exact LeO.none _
      | refine LeO.ite ?_ ?_
      | refine LeO.bind ?_ (fun _ => ?_)
set_option maxHeartbeats 8000000 in
set_option maxRecDepth 100000 in
theorem magnetolaw01_BitsNumbers.calls (k : Nat) (a0 : Int) (a1 : Int) (A2 : Option Addr) (c2 : Nat) (l2 : List Int) (r : Bool) (w : World) (hr2 : Kd.C (Kd.int .i64) w A2 l2.length l2) (hc2 : l2.length ≤ c2) (h : magnetolaw01_BitsNumbers.f k a0 a1 l2 = some r) :
    Calls Try.prog 4 #[.int .u64 a0, .int .i64 a1, .slice A2 l2.length c2] w fun e w' => e = .returned (.bool r) ∧ Below w.heap.size w w' := by
  have HR2 := Aside0.mk hr2
  have HC2 := Aside0.mk hc2
  clear hr2 hc2
  have HB := Aside0.mk (Below.refl w.heap.size w)
  have H : (if (l2.length : Int) > 300 then ((magnetolaw01_awake.f k).bind fun t188 => (some t188)) else ((bits_Of.f k a0 a1).bind fun bt189 => (if a1 < 0 then (magnetolaw01_BitsNumbers.j0 k a0 a1 l2 bt189.1 bt189.2 true) else (magnetolaw01_BitsNumbers.j0 k a0 a1 l2 bt189.1 bt189.2 (decide (a1 > 64)))))) = some r := h
  clear h
  by_cases c4 : (l2.length : Int) > 300
  · rw [if_pos c4] at H
    have c4b0 : decide (300 < (l2.length : Int)) = true := decide_eq_true c4
    have c4b1 : decide (300 < l2.length) = true := decide_eq_true (by omega)
    clear c4
    replace H := Option.bind_eq_some_iff.mp H
    obtain ⟨t188, A50, H⟩ := H
    replace H : (some t188) = some r := H
    have A5 := Aside0.mk A50
    clear A50
    obtain rfl := Option.some.inj H
    go_enter Try.func4, Try.ntmps4
    go_wp2_with (first | ((with_reducible refine gate_callee (f := 21) rfl ?_); refine goesL_ (some 14) rfl rfl Try.func21 (by kernel_rfl) rfl #[] rfl (by (try simp only [List.map_toArray, List.map_cons, List.map_nil]); first | done | rfl | (simp only [List.length_drop, List.length_take]; rfl)) ?_; (with_reducible refine (magnetolaw01_awake.calls k  t188 _ A5.out).mono ?_); rintro e w6 ⟨rfl, hb⟩; refine ⟨_, rfl, ?_⟩; have n0_ := Aside0.mk (below_step (by repeat (first | (with_reducible first | exact HB.out | apply below_alloc | apply pw_below_drewN | apply below_drew1) | exact HB.out)) hb); clear HB; have HB := n0_; clear n0_; (try clear hb); (try clear hb2); (try clear hk); (try clear hi)))
    go_ret
    exact ⟨by first | rfl | (simp [errW_none, errW_some] <;> rfl) | (simp [*, errW_none, errW_some] <;> rfl), by repeat (first | (with_reducible first | exact HB.out | apply below_alloc | apply pw_below_drewN | apply below_drew1) | exact HB.out)⟩
  · rw [if_neg c4] at H
    have c4b0 : decide (300 < (l2.length : Int)) = false := decide_eq_false c4
    have c4b1 : decide (300 < l2.length) = false := decide_eq_false (by omega)
    clear c4
    replace H := Option.bind_eq_some_iff.mp H
    obtain ⟨⟨t189, t190⟩, A70, H⟩ := H
    replace H : (if a1 < 0 then (magnetolaw01_BitsNumbers.j0 k a0 a1 l2 t189 t190 true) else (magnetolaw01_BitsNumbers.j0 k a0 a1 l2 t189 t190 (decide (a1 > 64)))) = some r := H
    have A7 := Aside0.mk A70
    clear A70
    have HC8 := Aside0.mk H
    clear H
    go_enter Try.func4, Try.ntmps4
    go_upto_region 4 with (first | ((with_reducible refine gate_callee (f := 27) rfl ?_); refine goesL_ (some 18) rfl rfl Try.func27 (by kernel_rfl) rfl #[.int .u64 a0, .int .i64 a1] rfl (by (try simp only [List.map_toArray, List.map_cons, List.map_nil]); first | done | rfl | (simp only [List.length_drop, List.length_take]; rfl)) ?_; (with_reducible refine (bits_Of.calls k a0 a1 t189 t190 _ A7.out).mono ?_); rintro e w9 ⟨v191, rfl, ho0, hb⟩; refine ⟨_, rfl, ?_⟩; have n0_ := Aside0.mk (Kd.R_lower ho0 (below_size (by repeat (first | (with_reducible first | exact HB.out | apply below_alloc | apply pw_below_drewN | apply below_drew1) | exact HB.out)))); have n1_ := Aside0.mk (below_step (by repeat (first | (with_reducible first | exact HB.out | apply below_alloc | apply pw_below_drewN | apply below_drew1) | exact HB.out)) hb); clear HB; have HO192 := n0_; have HB := n1_; clear n0_ n1_; (try clear hb); (try clear hb2); (try clear hk); (try clear hi); (try clear ho0)))
    (try simp only [Act.put, List.setIfInBounds_toArray, List.set_cons_zero, List.set_cons_succ])
    go_cut [26] (fun v26 wc => ∃ (kq : Nat) (x26_7 : Bool), v26 = .bool x26_7 ∧ Aside0 (magnetolaw01_BitsNumbers.j0 kq a0 a1 l2 t189 t190 x26_7 = some r) ∧ Aside0 (kq ≤ k) ∧ Aside0 (Kd.R (Kd.int .i64) 3 wc w.heap.size (fun _ => True) v191 t189) ∧ Aside0 (Below w.heap.size w wc))
    case first =>
      have H := HC8.out
      clear HC8
      by_cases c10 : a1 < 0
      · rw [if_pos c10] at H
        have c10b0 : decide (a1 < 0) = true := decide_eq_true c10
        clear c10
        (first | rw [c10b0] | (simp only [i64_w, i32_w]; rw [c10b0]) | skip)
        have H' := Aside0.mk H
        clear H
        go_wp2
        go_meet
        case rel => exact ⟨_, (true), (by first | rfl | (simp; done) | (simp [*]; done)), H', ⟨by first | omega | exact Nat.le_refl _⟩, ⟨by (with_reducible repeat (first | apply Kd.R_alloc | apply Kd.R_drewN | apply Kd.R_drew)); exact HO192.out⟩, ⟨by repeat (first | (with_reducible first | exact HB.out | apply below_alloc | apply pw_below_drewN | apply below_drew1) | exact HB.out)⟩⟩
      · rw [if_neg c10] at H
        have c10b0 : decide (a1 < 0) = false := decide_eq_false c10
        clear c10
        (first | rw [c10b0] | (simp only [i64_w, i32_w]; rw [c10b0]) | skip)
        have H' := Aside0.mk H
        clear H
        go_wp2
        go_meet
        case rel => exact ⟨_, (decide (a1 > 64)), (by first | rfl | (simp; done) | (simp [*]; done)), H', ⟨by first | omega | exact Nat.le_refl _⟩, ⟨by (with_reducible repeat (first | apply Kd.R_alloc | apply Kd.R_drewN | apply Kd.R_drew)); exact HO192.out⟩, ⟨by repeat (first | (with_reducible first | exact HB.out | apply below_alloc | apply pw_below_drewN | apply below_drew1) | exact HB.out)⟩⟩
    case rest =>
      clear HC8
      try clear c1
      try clear c2
      try clear p2
      try clear c4
      try clear c4b0
      try clear c4b1
      try clear c10
      try clear c10b0
      obtain ⟨kq, x26_7, rfl, HA, HJ7, HO_7, HB⟩ := hcut
      cases kq with
      | zero => exact absurd HA.out (by simp [magnetolaw01_BitsNumbers.j0])
      | succ kj7 =>
        have H := HA.out
        clear HA
        simp only [magnetolaw01_BitsNumbers.j0] at H
        have HC11 := Aside0.mk H
        clear H
        go_upto_if 26 with (fail)
        go_cut [] (fun wc => ∃ (kq : Nat), Aside0 (magnetolaw01_BitsNumbers.j1 kq l2 = some r) ∧ Aside0 (kq ≤ kj7) ∧ Aside0 (Below w.heap.size w wc))
        case first =>
          have H := HC11.out
          clear HC11
          by_cases c12 : x26_7 = true
          · subst c12
            have H1 : (if (t189.length : Int) = 0 then (if t190 = 10 then (magnetolaw01_BitsNumbers.j1 kj7 l2) else (none)) else (none)) = some r := by rw [if_pos rfl] at H; exact H
            clear H
            have H := H1
            clear H1
            by_cases c13 : (t189.length : Int) = 0
            · rw [if_pos c13] at H
              have c13b0 : ((t189.length : Int) == 0) = true := beq_iff_eq.mpr c13
              have c13b1 : ((t189.length : Int) != 0) = false := bne_eq_false_iff_eq.mpr c13
              clear c13
              (first | rw [c13b0] | (simp only [i64_w, i32_w]; rw [c13b0]) | skip)
              by_cases c14 : t190 = 10
              · rw [if_pos c14] at H
                have c14b0 : (t190 == 10) = true := beq_iff_eq.mpr c14
                have c14b1 : (t190 != 10) = false := bne_eq_false_iff_eq.mpr c14
                clear c14
                have H' := Aside0.mk H
                clear H
                obtain ⟨Ao15, co15, eo15⟩ := Kd.R_slice HO_7.out
                subst eo15
                go_wp2
                go_meet
                case rel => exact ⟨_, H', ⟨by have := HJ7.out; first | omega | exact Nat.le_refl _⟩, ⟨by repeat (first | (with_reducible first | exact HB.out | apply below_alloc | apply pw_below_drewN | apply below_drew1) | exact HB.out)⟩⟩
              · rw [if_neg c14] at H
                exact absurd H (by simp)
            · rw [if_neg c13] at H
              exact absurd H (by simp)
          · replace c12 := Bool.eq_false_iff.mpr c12
            subst c12
            have H1 : (if t190 = 0 then ((magnetoref01_Of.f kj7 a0 a1).bind fun t193 => ((magnetolaw01_ints.f kj7 t189 t193).bind fun t196 => (if t196 = true then (magnetolaw01_BitsNumbers.j1 kj7 l2) else (none)))) else (none)) = some r := by rw [if_neg (show ¬ (false = true) by decide)] at H; exact H
            clear H
            have H := H1
            clear H1
            by_cases c16 : t190 = 0
            · rw [if_pos c16] at H
              have c16b0 : (t190 == 0) = true := beq_iff_eq.mpr c16
              have c16b1 : (t190 != 0) = false := bne_eq_false_iff_eq.mpr c16
              clear c16
              replace H := Option.bind_eq_some_iff.mp H
              obtain ⟨t193, A170, H⟩ := H
              replace H : ((magnetolaw01_ints.f kj7 t189 t193).bind fun t196 => (if t196 = true then (magnetolaw01_BitsNumbers.j1 kj7 l2) else (none))) = some r := H
              have A17 := Aside0.mk A170
              clear A170
              replace H := Option.bind_eq_some_iff.mp H
              obtain ⟨t196, A180, H⟩ := H
              replace H : (if t196 = true then (magnetolaw01_BitsNumbers.j1 kj7 l2) else (none)) = some r := H
              have A18 := Aside0.mk A180
              clear A180
              by_cases c19 : t196 = true
              · subst c19
                have H1 : (magnetolaw01_BitsNumbers.j1 kj7 l2) = some r := by rw [if_pos rfl] at H; exact H
                clear H
                have H := H1
                clear H1
                have H' := Aside0.mk H
                clear H
                go_wp2_with (first | (go_at_call 29; (with_reducible refine (magnetoref01_Of.calls kj7 a0 a1 t193 _ A17.out).mono ?_); rintro e w20 ⟨v194, rfl, ho0, hb⟩; have n0_ := Aside0.mk (Kd.R_elder' (by (with_reducible repeat (first | apply Kd.R_alloc | apply Kd.R_drewN | apply Kd.R_drew)); exact HO_7.out) (Kd.R_base ho0) hb); have n1_ := Aside0.mk (Kd.R_lower (Kd.R_new' ho0 (Kd.R_lt (by (with_reducible repeat (first | apply Kd.R_alloc | apply Kd.R_drewN | apply Kd.R_drew)); exact HO_7.out))) (below_size (by repeat (first | (with_reducible first | exact HB.out | apply below_alloc | apply pw_below_drewN | apply below_drew1) | exact HB.out)))); have n2_ := Aside0.mk (below_step (by repeat (first | (with_reducible first | exact HB.out | apply below_alloc | apply pw_below_drewN | apply below_drew1) | exact HB.out)) hb); clear HO_7; clear HB; have HO_7 := n0_; have HO195 := n1_; have HB := n2_; clear n0_ n1_ n2_; (try clear hb); (try clear hb2); (try clear hk); (try clear hi); (try clear ho0); obtain ⟨Ao21, co21, eo21⟩ := Kd.R_slice HO_7.out; subst eo21; obtain ⟨Ao22, co22, eo22⟩ := Kd.R_slice HO195.out; subst eo22) | (go_at_call 28; (with_reducible refine (magnetolaw01_ints.calls kj7 _ _ t189 _ _ t193 true _ ?side1 ?side2 ?side3 ?side4 A18.out).mono ?_); (case side1 => repeat (first | exact (Kd.R_reads' HO_7.out).2.2 | (with_reducible refine Kd.C_alloc ?_ _) | (with_reducible refine Kd.C_drewN ?_ _) | (with_reducible refine Kd.C_drew ?_))); (case side2 => exact (Kd.R_reads' HO_7.out).2.1); (case side3 => repeat (first | exact (Kd.R_reads' HO195.out).2.2 | (with_reducible refine Kd.C_alloc ?_ _) | (with_reducible refine Kd.C_drewN ?_ _) | (with_reducible refine Kd.C_drew ?_))); (case side4 => exact (Kd.R_reads' HO195.out).2.1); rintro e w' ⟨rfl, ⟨nd, rfl⟩⟩))
                go_meet
                case rel => exact ⟨_, H', ⟨by have := HJ7.out; first | omega | exact Nat.le_refl _⟩, ⟨by repeat (first | (with_reducible first | exact HB.out | apply below_alloc | apply pw_below_drewN | apply below_drew1) | exact HB.out)⟩⟩
              · replace c19 := Bool.eq_false_iff.mpr c19
                subst c19
                have H1 : (none) = some r := by rw [if_neg (show ¬ (false = true) by decide)] at H; exact H
                clear H
                have H := H1
                clear H1
                exact absurd H (by simp)
            · rw [if_neg c16] at H
              exact absurd H (by simp)
        case rest =>
          clear HC11
          try clear c1
          try clear c2
          try clear p2
          try clear c4
          try clear c4b0
          try clear c4b1
          try clear c10
          try clear c10b0
          try clear c12
          try clear c13
          try clear c13b0
          try clear c13b1
          try clear c14
          try clear c14b0
          try clear c14b1
          try clear c16
          try clear c16b0
          try clear c16b1
          try clear c19
          try clear c21
          try clear p2
          obtain ⟨kq, HA, HJ10, HB⟩ := hcut
          cases kq with
          | zero => exact absurd HA.out (by simp [magnetolaw01_BitsNumbers.j1])
          | succ kj10 =>
            have H := HA.out
            clear HA
            simp only [magnetolaw01_BitsNumbers.j1] at H
            replace H := Option.bind_eq_some_iff.mp H
            obtain ⟨⟨t197, t198⟩, A230, H⟩ := H
            replace H : (if (l2.length : Int) > 64 then (if t197 = 0 then (if t198 = 12 then ((magnetolaw01_awake.f kj10).bind fun t199 => (some t199)) else (none)) else (none)) else ((magnetoref01_Check.f kj10 l2).bind fun t200 => (if t200 ≥ 0 then (if t197 = 0 then (if t198 = 10 then ((magnetolaw01_awake.f kj10).bind fun t201 => (some t201)) else (none)) else (none)) else ((magnetoref01_Value.f kj10 l2).bind fun t202 => (if t197 = t202 then (if t198 = 0 then ((magnetolaw01_awake.f kj10).bind fun t203 => (some t203)) else (none)) else (none)))))) = some r := H
            have A23 := Aside0.mk A230
            clear A230
            by_cases c24 : (l2.length : Int) > 64
            · rw [if_pos c24] at H
              have c24b0 : decide (64 < (l2.length : Int)) = true := decide_eq_true c24
              have c24b1 : decide (64 < l2.length) = true := decide_eq_true (by omega)
              clear c24
              by_cases c25 : t197 = 0
              · rw [if_pos c25] at H
                have c25b0 : (t197 == 0) = true := beq_iff_eq.mpr c25
                have c25b1 : (t197 != 0) = false := bne_eq_false_iff_eq.mpr c25
                clear c25
                by_cases c26 : t198 = 12
                · rw [if_pos c26] at H
                  have c26b0 : (t198 == 12) = true := beq_iff_eq.mpr c26
                  have c26b1 : (t198 != 12) = false := bne_eq_false_iff_eq.mpr c26
                  clear c26
                  replace H := Option.bind_eq_some_iff.mp H
                  obtain ⟨t199, A270, H⟩ := H
                  replace H : (some t199) = some r := H
                  have A27 := Aside0.mk A270
                  clear A270
                  obtain rfl := Option.some.inj H
                  go_wp2_with (first | ((with_reducible refine gate_callee (f := 30) rfl ?_); refine goesL_ (some 46) rfl rfl Try.func30 (by kernel_rfl) rfl #[.slice A2 l2.length c2] rfl (by (try simp only [List.map_toArray, List.map_cons, List.map_nil]); first | done | rfl | (simp only [List.length_drop, List.length_take]; rfl)) ?_; (with_reducible refine (bits_Value.calls kj10 _ _ l2 t197 t198 _ ?side1 ?side2 A23.out).mono ?_); (case side1 => repeat (first | exact (Kd.C_below HR2.out HB.out) | (with_reducible refine Kd.C_alloc ?_ _) | (with_reducible refine Kd.C_drewN ?_ _) | (with_reducible refine Kd.C_drew ?_))); (case side2 => exact HC2.out); rintro e w' ⟨rfl, ⟨nd, rfl⟩⟩; refine ⟨_, rfl, ?_⟩) | (go_at_call 21; (with_reducible refine (magnetolaw01_awake.calls kj10  t199 _ A27.out).mono ?_); rintro e w28 ⟨rfl, hb⟩; have n0_ := Aside0.mk (below_step (by repeat (first | (with_reducible first | exact HB.out | apply below_alloc | apply pw_below_drewN | apply below_drew1) | exact HB.out)) hb); clear HB; have HB := n0_; clear n0_; (try clear hb); (try clear hb2); (try clear hk); (try clear hi)))
                  go_ret
                  exact ⟨by first | rfl | (simp [errW_none, errW_some] <;> rfl) | (simp [*, errW_none, errW_some] <;> rfl), by repeat (first | (with_reducible first | exact HB.out | apply below_alloc | apply pw_below_drewN | apply below_drew1) | exact HB.out)⟩
                · rw [if_neg c26] at H
                  exact absurd H (by simp)
              · rw [if_neg c25] at H
                exact absurd H (by simp)
            · rw [if_neg c24] at H
              have c24b0 : decide (64 < (l2.length : Int)) = false := decide_eq_false c24
              have c24b1 : decide (64 < l2.length) = false := decide_eq_false (by omega)
              clear c24
              replace H := Option.bind_eq_some_iff.mp H
              obtain ⟨t200, A290, H⟩ := H
              replace H : (if t200 ≥ 0 then (if t197 = 0 then (if t198 = 10 then ((magnetolaw01_awake.f kj10).bind fun t201 => (some t201)) else (none)) else (none)) else ((magnetoref01_Value.f kj10 l2).bind fun t202 => (if t197 = t202 then (if t198 = 0 then ((magnetolaw01_awake.f kj10).bind fun t203 => (some t203)) else (none)) else (none)))) = some r := H
              have A29 := Aside0.mk A290
              clear A290
              by_cases c30 : t200 ≥ 0
              · rw [if_pos c30] at H
                have c30b0 : decide (0 ≤ t200) = true := decide_eq_true c30
                clear c30
                by_cases c31 : t197 = 0
                · rw [if_pos c31] at H
                  have c31b0 : (t197 == 0) = true := beq_iff_eq.mpr c31
                  have c31b1 : (t197 != 0) = false := bne_eq_false_iff_eq.mpr c31
                  clear c31
                  by_cases c32 : t198 = 10
                  · rw [if_pos c32] at H
                    have c32b0 : (t198 == 10) = true := beq_iff_eq.mpr c32
                    have c32b1 : (t198 != 10) = false := bne_eq_false_iff_eq.mpr c32
                    clear c32
                    replace H := Option.bind_eq_some_iff.mp H
                    obtain ⟨t201, A330, H⟩ := H
                    replace H : (some t201) = some r := H
                    have A33 := Aside0.mk A330
                    clear A330
                    obtain rfl := Option.some.inj H
                    go_wp2_with (first | ((with_reducible refine gate_callee (f := 30) rfl ?_); refine goesL_ (some 46) rfl rfl Try.func30 (by kernel_rfl) rfl #[.slice A2 l2.length c2] rfl (by (try simp only [List.map_toArray, List.map_cons, List.map_nil]); first | done | rfl | (simp only [List.length_drop, List.length_take]; rfl)) ?_; (with_reducible refine (bits_Value.calls kj10 _ _ l2 t197 t198 _ ?side1 ?side2 A23.out).mono ?_); (case side1 => repeat (first | exact (Kd.C_below HR2.out HB.out) | (with_reducible refine Kd.C_alloc ?_ _) | (with_reducible refine Kd.C_drewN ?_ _) | (with_reducible refine Kd.C_drew ?_))); (case side2 => exact HC2.out); rintro e w' ⟨rfl, ⟨nd, rfl⟩⟩; refine ⟨_, rfl, ?_⟩) | ((with_reducible refine gate_callee (f := 22) rfl ?_); refine goesL_ (some 62) rfl rfl Try.func22 (by kernel_rfl) rfl #[.slice A2 l2.length c2] rfl (by (try simp only [List.map_toArray, List.map_cons, List.map_nil]); first | done | rfl | (simp only [List.length_drop, List.length_take]; rfl)) ?_; (with_reducible refine (magnetoref01_Check.calls kj10 _ _ l2 t200 _ ?side1 ?side2 A29.out).mono ?_); (case side1 => repeat (first | exact (Kd.C_below HR2.out (by repeat (first | (with_reducible first | exact HB.out | apply below_alloc | apply pw_below_drewN | apply below_drew1) | exact HB.out))) | (with_reducible refine Kd.C_alloc ?_ _) | (with_reducible refine Kd.C_drewN ?_ _) | (with_reducible refine Kd.C_drew ?_))); (case side2 => exact HC2.out); rintro e w' ⟨rfl, ⟨nd, rfl⟩⟩; refine ⟨_, rfl, ?_⟩) | (go_at_call 21; (with_reducible refine (magnetolaw01_awake.calls kj10  t201 _ A33.out).mono ?_); rintro e w34 ⟨rfl, hb⟩; have n0_ := Aside0.mk (below_step (by repeat (first | (with_reducible first | exact HB.out | apply below_alloc | apply pw_below_drewN | apply below_drew1) | exact HB.out)) hb); clear HB; have HB := n0_; clear n0_; (try clear hb); (try clear hb2); (try clear hk); (try clear hi)))
                    go_ret
                    exact ⟨by first | rfl | (simp [errW_none, errW_some] <;> rfl) | (simp [*, errW_none, errW_some] <;> rfl), by repeat (first | (with_reducible first | exact HB.out | apply below_alloc | apply pw_below_drewN | apply below_drew1) | exact HB.out)⟩
                  · rw [if_neg c32] at H
                    exact absurd H (by simp)
                · rw [if_neg c31] at H
                  exact absurd H (by simp)
              · rw [if_neg c30] at H
                have c30b0 : decide (0 ≤ t200) = false := decide_eq_false c30
                clear c30
                replace H := Option.bind_eq_some_iff.mp H
                obtain ⟨t202, A350, H⟩ := H
                replace H : (if t197 = t202 then (if t198 = 0 then ((magnetolaw01_awake.f kj10).bind fun t203 => (some t203)) else (none)) else (none)) = some r := H
                have A35 := Aside0.mk A350
                clear A350
                by_cases c36 : t197 = t202
                · rw [if_pos c36] at H
                  have c36b0 : (t197 == t202) = true := beq_iff_eq.mpr c36
                  have c36b1 : (t197 != t202) = false := bne_eq_false_iff_eq.mpr c36
                  clear c36
                  by_cases c37 : t198 = 0
                  · rw [if_pos c37] at H
                    have c37b0 : (t198 == 0) = true := beq_iff_eq.mpr c37
                    have c37b1 : (t198 != 0) = false := bne_eq_false_iff_eq.mpr c37
                    clear c37
                    replace H := Option.bind_eq_some_iff.mp H
                    obtain ⟨t203, A380, H⟩ := H
                    replace H : (some t203) = some r := H
                    have A38 := Aside0.mk A380
                    clear A380
                    obtain rfl := Option.some.inj H
                    go_wp2_with (first | ((with_reducible refine gate_callee (f := 30) rfl ?_); refine goesL_ (some 46) rfl rfl Try.func30 (by kernel_rfl) rfl #[.slice A2 l2.length c2] rfl (by (try simp only [List.map_toArray, List.map_cons, List.map_nil]); first | done | rfl | (simp only [List.length_drop, List.length_take]; rfl)) ?_; (with_reducible refine (bits_Value.calls kj10 _ _ l2 t197 t198 _ ?side1 ?side2 A23.out).mono ?_); (case side1 => repeat (first | exact (Kd.C_below HR2.out HB.out) | (with_reducible refine Kd.C_alloc ?_ _) | (with_reducible refine Kd.C_drewN ?_ _) | (with_reducible refine Kd.C_drew ?_))); (case side2 => exact HC2.out); rintro e w' ⟨rfl, ⟨nd, rfl⟩⟩; refine ⟨_, rfl, ?_⟩) | ((with_reducible refine gate_callee (f := 22) rfl ?_); refine goesL_ (some 62) rfl rfl Try.func22 (by kernel_rfl) rfl #[.slice A2 l2.length c2] rfl (by (try simp only [List.map_toArray, List.map_cons, List.map_nil]); first | done | rfl | (simp only [List.length_drop, List.length_take]; rfl)) ?_; (with_reducible refine (magnetoref01_Check.calls kj10 _ _ l2 t200 _ ?side1 ?side2 A29.out).mono ?_); (case side1 => repeat (first | exact (Kd.C_below HR2.out (by repeat (first | (with_reducible first | exact HB.out | apply below_alloc | apply pw_below_drewN | apply below_drew1) | exact HB.out))) | (with_reducible refine Kd.C_alloc ?_ _) | (with_reducible refine Kd.C_drewN ?_ _) | (with_reducible refine Kd.C_drew ?_))); (case side2 => exact HC2.out); rintro e w' ⟨rfl, ⟨nd, rfl⟩⟩; refine ⟨_, rfl, ?_⟩) | ((with_reducible refine gate_callee (f := 31) rfl ?_); refine goesL_ (some 75) rfl rfl Try.func31 (by kernel_rfl) rfl #[.slice A2 l2.length c2] rfl (by (try simp only [List.map_toArray, List.map_cons, List.map_nil]); first | done | rfl | (simp only [List.length_drop, List.length_take]; rfl)) ?_; (with_reducible refine (magnetoref01_Value.calls kj10 _ _ l2 t202 _ ?side1 ?side2 A35.out).mono ?_); (case side1 => repeat (first | exact (Kd.C_below HR2.out (by repeat (first | (with_reducible first | exact HB.out | apply below_alloc | apply pw_below_drewN | apply below_drew1) | exact HB.out))) | (with_reducible refine Kd.C_alloc ?_ _) | (with_reducible refine Kd.C_drewN ?_ _) | (with_reducible refine Kd.C_drew ?_))); (case side2 => exact HC2.out); rintro e w' ⟨rfl, ⟨nd, rfl⟩⟩; refine ⟨_, rfl, ?_⟩) | (go_at_call 21; (with_reducible refine (magnetolaw01_awake.calls kj10  t203 _ A38.out).mono ?_); rintro e w39 ⟨rfl, hb⟩; have n0_ := Aside0.mk (below_step (by repeat (first | (with_reducible first | exact HB.out | apply below_alloc | apply pw_below_drewN | apply below_drew1) | exact HB.out)) hb); clear HB; have HB := n0_; clear n0_; (try clear hb); (try clear hb2); (try clear hk); (try clear hi)))
                    go_ret
                    exact ⟨by first | rfl | (simp [errW_none, errW_some] <;> rfl) | (simp [*, errW_none, errW_some] <;> rfl), by repeat (first | (with_reducible first | exact HB.out | apply below_alloc | apply pw_below_drewN | apply below_drew1) | exact HB.out)⟩
                  · rw [if_neg c37] at H
                    exact absurd H (by simp)
                · rw [if_neg c36] at H
                  exact absurd H (by simp)

/-- THE ONE PURE STATEMENT of magnetolaw01_BitsNumbers: yours. -/
def magnetolaw01_BitsNumbers.Pure : Prop := ∀ (a0 : Int) (a1 : Int) (l2 : List Int), (Lit.int .u64 a0).wf = true → (Lit.int .i64 a1).wf = true → l2.length ≤ maxLen → l2.length * 8 ≤ 140737488351232 → (∀ x ∈ l2, (Lit.int .i64 x).wf = true) → ∃ k, magnetolaw01_BitsNumbers.f k a0 a1 l2 = some true
theorem magnetolaw01_BitsNumbers.walk (P : magnetolaw01_BitsNumbers.Pure) (a0 : Int) (a1 : Int) (a2 : Option Addr) (len2 cap2 : Nat) (z2 : List Int) (w : World) (w0 : (Lit.int .u64 a0).wf = true) (w1 : (Lit.int .i64 a1).wf = true) (w2 : (a2 = none ∧ len2 = 0 ∧ cap2 = 0 ∧ z2 = []) ∨ ∃ x, a2 = some x ∧ len2 ≤ cap2 ∧ cap2 ≤ maxLen ∧ z2.length = cap2 ∧ (∀ i, i < z2.length → w.cell? (x.add i) = some (.int .i64 (z2.getD i 0))) ∧ ∀ n ∈ z2, (Lit.int .i64 n).wf = true) (y2 : len2 * 8 ≤ 140737488351232) :
    Calls Try.prog 4 #[.int .u64 a0, .int .i64 a1, .slice a2 len2 cap2] w fun e w' => e = .returned (.bool true) ∧ Below w.heap.size w w' := by
  obtain ⟨l2, rfl, hr2, hm2, hw2, hc2⟩ := ReadsInt.ofRowC w2
  obtain ⟨k, h⟩ := P a0 a1 l2 w0 w1 hm2 y2 hw2
  refine (magnetolaw01_BitsNumbers.calls k a0 a1 _ _ l2 true w (Kd.C_of_reads (d := (0 : Int)) (h1 := fun _ => rfl) hr2) hc2 h).mono ?_
  rintro e w' ⟨rfl, hd⟩
  exact ⟨rfl, hd⟩

end Go.Proofs.Ytclmogjmmcjppaa.PA
