-- PRINTED by print.py (a twelfth state) out of the translation. Not trusted: Lean checks it.
import Derived.Test.YtclmogjmmcjppaaPAx0
import Derived.Test.YtclmogjmmcjppaaPAx3
import Derived.Test.YtclmogjmmcjppaaPAx11
import Derived.Test.YtclmogjmmcjppaaPAx12
import Derived.Test.YtclmogjmmcjppaaPAx14
import Derived.Test.YtclmogjmmcjppaaPAx15
namespace Go.Proofs.Ytclmogjmmcjppaa.PA
open Go.RowKit Go.Proofs.YtclmogjmmcjppaaW.PrintWords Go.Proofs.YtclmogjmmcjppaaW.PrintLast Go.Proofs.YtclmogjmmcjppaaW.PrintMore
attribute [local go_sem] max2_int min2_int max_two min_two max_three min_three max_four min_four   -- for this text's walks alone
set_option linter.unusedVariables false
set_option linter.unusedSimpArgs false

/-! ### magnetolaw02_Crc15Sums: function 11 -/
def magnetolaw02_Crc15Sums.f (k : Nat) (l0 : List Int) : Option (Bool) := if (l0.length : Int) > 300 then ((magnetolaw02_awake.f).bind fun t471 => (some t471)) else ((crc15_Sum.f l0).bind fun bt472 => ((crc15_Right.f k l0).bind fun t474 => ((magnetoref01_Check.f k l0).bind fun t475 => (if t475 ≥ 0 then (if bt472.1 = 0 then (if bt472.2 = 10 then (if t474 = true then (none) else ((magnetolaw02_awake.f).bind fun t476 => (some t476))) else (none)) else (none)) else (if (l0.length : Int) ≥ 15 then (if 0 ≤ (wrap64 ((l0.length : Int) - 15)) then (if (wrap64 ((l0.length : Int) - 15)) ≤ (l0.length : Int) then ((magnetoref02_Sum.f k (l0.take ((wrap64 ((l0.length : Int) - 15)) : Int).toNat)).bind fun t479 => ((magnetolaw02_ints.f k (l0.drop ((wrap64 ((l0.length : Int) - 15)) : Int).toNat) t479).bind fun t482 => ((magnetoref02_Sum.f k l0).bind fun t483 => ((magnetoref02_Value.f k t483).bind fun t486 => (if bt472.1 = t486 then (if bt472.2 = 0 then (if (t474 == t482) = true then ((magnetolaw02_awake.f).bind fun t487 => (some t487)) else (none)) else (none)) else (none)))))) else (none)) else (none)) else ((magnetoref02_Sum.f k l0).bind fun t488 => ((magnetoref02_Value.f k t488).bind fun t491 => (if bt472.1 = t491 then (if bt472.2 = 0 then (if (t474 == false) = true then ((magnetolaw02_awake.f).bind fun t492 => (some t492)) else (none)) else (none)) else (none)))))))))
theorem magnetolaw02_Crc15Sums.mono : ∀ a0 k, LeO (magnetolaw02_Crc15Sums.f k a0) (magnetolaw02_Crc15Sums.f (k + 1) a0) := by
  intro a0 k
  unfold magnetolaw02_Crc15Sums.f
  repeat' first
      | (with_reducible exact crc15_Right.mono _ _)
      | (with_reducible exact magnetolaw02_ints.mono _ _ _)
      | (with_reducible exact magnetoref01_Check.mono _ _)
      | (with_reducible exact magnetoref02_Sum.mono _ _)
      | (with_reducible exact magnetoref02_Value.mono _ _)
      | (with_reducible exact LeO.refl _)
      | (with_reducible exact LeO.none _)
      | (with_reducible refine LeO.ite ?_ ?_)
      | (with_reducible refine LeO.bind ?_ (fun _ => ?_))
      | exact crc15_Right.mono _ _
      | exact magnetolaw02_ints.mono _ _ _
      | exact magnetoref01_Check.mono _ _
      | exact magnetoref02_Sum.mono _ _
      | exact magnetoref02_Value.mono _ _
      | exact LeO.none _
      | refine LeO.ite ?_ ?_
      | refine LeO.bind ?_ (fun _ => ?_)
def magnetolaw02_Crc15Sums.T10 : Bool × List (List Nat × List Nat) := (true, [([], []), ([], []), ([0, 1], [0, 1]), ([], []), ([], []), ([3, 4], [3, 4]), ([5], [5]), ([2, 6, 6], [2, 6]), ([7, 7, 0, 1, 2, 3, 4, 5, 6, 7], [7])])
def magnetolaw02_Crc15Sums.B10 : List Nat := [0, 0, 3, 0, 0, 24, 56, 127, 255]
theorem magnetolaw02_Crc15Sums.tab10 : rtab .any (opsOf Try.f11 10) = magnetolaw02_Crc15Sums.T10 := by kernel_rfl
theorem magnetolaw02_Crc15Sums.bits10 : waitsOk magnetolaw02_Crc15Sums.T10.2 magnetolaw02_Crc15Sums.B10 = true := by kernel_rfl
set_option maxHeartbeats 8000000 in
set_option maxRecDepth 100000 in
theorem magnetolaw02_Crc15Sums.calls (k : Nat) (A0 : Option Addr) (c0 : Nat) (l0 : List Int) (r : Bool) (w : World) (hr0 : Kd.C (Kd.int .i64) w A0 l0.length l0) (hc0 : l0.length ≤ c0) (h : magnetolaw02_Crc15Sums.f k l0 = some r) :
    Calls Try.prog 11 #[.slice A0 l0.length c0] w fun e w' => e = .returned (.bool r) ∧ Below w.heap.size w w' := by
  have HR0 := Aside0.mk hr0
  have HC0 := Aside0.mk hc0
  clear hr0 hc0
  have HB := Aside0.mk (Below.refl w.heap.size w)
  have H : (if (l0.length : Int) > 300 then ((magnetolaw02_awake.f).bind fun t471 => (some t471)) else ((crc15_Sum.f l0).bind fun bt472 => ((crc15_Right.f k l0).bind fun t474 => ((magnetoref01_Check.f k l0).bind fun t475 => (if t475 ≥ 0 then (if bt472.1 = 0 then (if bt472.2 = 10 then (if t474 = true then (none) else ((magnetolaw02_awake.f).bind fun t476 => (some t476))) else (none)) else (none)) else (if (l0.length : Int) ≥ 15 then (if 0 ≤ (wrap64 ((l0.length : Int) - 15)) then (if (wrap64 ((l0.length : Int) - 15)) ≤ (l0.length : Int) then ((magnetoref02_Sum.f k (l0.take ((wrap64 ((l0.length : Int) - 15)) : Int).toNat)).bind fun t479 => ((magnetolaw02_ints.f k (l0.drop ((wrap64 ((l0.length : Int) - 15)) : Int).toNat) t479).bind fun t482 => ((magnetoref02_Sum.f k l0).bind fun t483 => ((magnetoref02_Value.f k t483).bind fun t486 => (if bt472.1 = t486 then (if bt472.2 = 0 then (if (t474 == t482) = true then ((magnetolaw02_awake.f).bind fun t487 => (some t487)) else (none)) else (none)) else (none)))))) else (none)) else (none)) else ((magnetoref02_Sum.f k l0).bind fun t488 => ((magnetoref02_Value.f k t488).bind fun t491 => (if bt472.1 = t491 then (if bt472.2 = 0 then (if (t474 == false) = true then ((magnetolaw02_awake.f).bind fun t492 => (some t492)) else (none)) else (none)) else (none)))))))))) = some r := h
  clear h
  by_cases c2 : (l0.length : Int) > 300
  · rw [if_pos c2] at H
    have c2b0 : decide (300 < (l0.length : Int)) = true := decide_eq_true c2
    have c2b1 : decide (300 < l0.length) = true := decide_eq_true (by omega)
    clear c2
    replace H := Option.bind_eq_some_iff.mp H
    obtain ⟨t471, A30, H⟩ := H
    replace H : (some t471) = some r := H
    have A3 := Aside0.mk A30
    clear A30
    obtain rfl := Option.some.inj H
    go_enter Try.func11, Try.ntmps11
    go_wp2_with (first | ((with_reducible refine gate_callee (f := 35) rfl ?_); refine goesL_ (some 11) rfl rfl Try.func35 (by kernel_rfl) rfl #[] rfl (by (try simp only [List.map_toArray, List.map_cons, List.map_nil]); first | done | rfl | (simp only [List.length_drop, List.length_take]; rfl)) ?_; (with_reducible refine (magnetolaw02_awake.calls  t471 _ A3.out).mono ?_); rintro e w4 ⟨rfl, hb⟩; refine ⟨_, rfl, ?_⟩; have n0_ := Aside0.mk (below_step (by repeat (first | (with_reducible first | exact HB.out | apply below_alloc | apply pw_below_drewN | apply below_drew1) | exact HB.out)) hb); clear HB; have HB := n0_; clear n0_; (try clear hb); (try clear hb2); (try clear hk); (try clear hi)))
    go_ret
    exact ⟨by first | rfl | (simp [errW_none, errW_some] <;> rfl) | (simp [*, errW_none, errW_some] <;> rfl), by repeat (first | (with_reducible first | exact HB.out | apply below_alloc | apply pw_below_drewN | apply below_drew1) | exact HB.out)⟩
  · rw [if_neg c2] at H
    have c2b0 : decide (300 < (l0.length : Int)) = false := decide_eq_false c2
    have c2b1 : decide (300 < l0.length) = false := decide_eq_false (by omega)
    clear c2
    replace H := Option.bind_eq_some_iff.mp H
    obtain ⟨⟨t472, t473⟩, A50, H⟩ := H
    replace H : ((crc15_Right.f k l0).bind fun t474 => ((magnetoref01_Check.f k l0).bind fun t475 => (if t475 ≥ 0 then (if t472 = 0 then (if t473 = 10 then (if t474 = true then (none) else ((magnetolaw02_awake.f).bind fun t476 => (some t476))) else (none)) else (none)) else (if (l0.length : Int) ≥ 15 then (if 0 ≤ (wrap64 ((l0.length : Int) - 15)) then (if (wrap64 ((l0.length : Int) - 15)) ≤ (l0.length : Int) then ((magnetoref02_Sum.f k (l0.take ((wrap64 ((l0.length : Int) - 15)) : Int).toNat)).bind fun t479 => ((magnetolaw02_ints.f k (l0.drop ((wrap64 ((l0.length : Int) - 15)) : Int).toNat) t479).bind fun t482 => ((magnetoref02_Sum.f k l0).bind fun t483 => ((magnetoref02_Value.f k t483).bind fun t486 => (if t472 = t486 then (if t473 = 0 then (if (t474 == t482) = true then ((magnetolaw02_awake.f).bind fun t487 => (some t487)) else (none)) else (none)) else (none)))))) else (none)) else (none)) else ((magnetoref02_Sum.f k l0).bind fun t488 => ((magnetoref02_Value.f k t488).bind fun t491 => (if t472 = t491 then (if t473 = 0 then (if (t474 == false) = true then ((magnetolaw02_awake.f).bind fun t492 => (some t492)) else (none)) else (none)) else (none)))))))) = some r := H
    have A5 := Aside0.mk A50
    clear A50
    replace H := Option.bind_eq_some_iff.mp H
    obtain ⟨t474, A60, H⟩ := H
    replace H : ((magnetoref01_Check.f k l0).bind fun t475 => (if t475 ≥ 0 then (if t472 = 0 then (if t473 = 10 then (if t474 = true then (none) else ((magnetolaw02_awake.f).bind fun t476 => (some t476))) else (none)) else (none)) else (if (l0.length : Int) ≥ 15 then (if 0 ≤ (wrap64 ((l0.length : Int) - 15)) then (if (wrap64 ((l0.length : Int) - 15)) ≤ (l0.length : Int) then ((magnetoref02_Sum.f k (l0.take ((wrap64 ((l0.length : Int) - 15)) : Int).toNat)).bind fun t479 => ((magnetolaw02_ints.f k (l0.drop ((wrap64 ((l0.length : Int) - 15)) : Int).toNat) t479).bind fun t482 => ((magnetoref02_Sum.f k l0).bind fun t483 => ((magnetoref02_Value.f k t483).bind fun t486 => (if t472 = t486 then (if t473 = 0 then (if (t474 == t482) = true then ((magnetolaw02_awake.f).bind fun t487 => (some t487)) else (none)) else (none)) else (none)))))) else (none)) else (none)) else ((magnetoref02_Sum.f k l0).bind fun t488 => ((magnetoref02_Value.f k t488).bind fun t491 => (if t472 = t491 then (if t473 = 0 then (if (t474 == false) = true then ((magnetolaw02_awake.f).bind fun t492 => (some t492)) else (none)) else (none)) else (none))))))) = some r := H
    have A6 := Aside0.mk A60
    clear A60
    replace H := Option.bind_eq_some_iff.mp H
    obtain ⟨t475, A70, H⟩ := H
    replace H : (if t475 ≥ 0 then (if t472 = 0 then (if t473 = 10 then (if t474 = true then (none) else ((magnetolaw02_awake.f).bind fun t476 => (some t476))) else (none)) else (none)) else (if (l0.length : Int) ≥ 15 then (if 0 ≤ (wrap64 ((l0.length : Int) - 15)) then (if (wrap64 ((l0.length : Int) - 15)) ≤ (l0.length : Int) then ((magnetoref02_Sum.f k (l0.take ((wrap64 ((l0.length : Int) - 15)) : Int).toNat)).bind fun t479 => ((magnetolaw02_ints.f k (l0.drop ((wrap64 ((l0.length : Int) - 15)) : Int).toNat) t479).bind fun t482 => ((magnetoref02_Sum.f k l0).bind fun t483 => ((magnetoref02_Value.f k t483).bind fun t486 => (if t472 = t486 then (if t473 = 0 then (if (t474 == t482) = true then ((magnetolaw02_awake.f).bind fun t487 => (some t487)) else (none)) else (none)) else (none)))))) else (none)) else (none)) else ((magnetoref02_Sum.f k l0).bind fun t488 => ((magnetoref02_Value.f k t488).bind fun t491 => (if t472 = t491 then (if t473 = 0 then (if (t474 == false) = true then ((magnetolaw02_awake.f).bind fun t492 => (some t492)) else (none)) else (none)) else (none)))))) = some r := H
    have A7 := Aside0.mk A70
    clear A70
    by_cases c8 : t475 ≥ 0
    · rw [if_pos c8] at H
      have c8b0 : decide (0 ≤ t475) = true := decide_eq_true c8
      clear c8
      by_cases c9 : t472 = 0
      · rw [if_pos c9] at H
        have c9b0 : (t472 == 0) = true := beq_iff_eq.mpr c9
        have c9b1 : (t472 != 0) = false := bne_eq_false_iff_eq.mpr c9
        clear c9
        by_cases c10 : t473 = 10
        · rw [if_pos c10] at H
          have c10b0 : (t473 == 10) = true := beq_iff_eq.mpr c10
          have c10b1 : (t473 != 10) = false := bne_eq_false_iff_eq.mpr c10
          clear c10
          by_cases c11 : t474 = true
          · subst c11
            have H1 : (none) = some r := by rw [if_pos rfl] at H; exact H
            clear H
            have H := H1
            clear H1
            exact absurd H (by simp)
          · replace c11 := Bool.eq_false_iff.mpr c11
            subst c11
            have H1 : ((magnetolaw02_awake.f).bind fun t476 => (some t476)) = some r := by rw [if_neg (show ¬ (false = true) by decide)] at H; exact H
            clear H
            have H := H1
            clear H1
            replace H := Option.bind_eq_some_iff.mp H
            obtain ⟨t476, A120, H⟩ := H
            replace H : (some t476) = some r := H
            have A12 := Aside0.mk A120
            clear A120
            obtain rfl := Option.some.inj H
            go_enter Try.func11, Try.ntmps11
            go_wp2_with (first | ((with_reducible refine gate_callee (f := 36) rfl ?_); refine goesL_ (some 14) rfl rfl Try.func36 (by kernel_rfl) rfl #[.slice A0 l0.length c0] rfl (by (try simp only [List.map_toArray, List.map_cons, List.map_nil]); first | done | rfl | (simp only [List.length_drop, List.length_take]; rfl)) ?_; (with_reducible refine (crc15_Sum.calls _ _ l0 t472 t473 _ ?side1 ?side2 A5.out).mono ?_); (case side1 => repeat (first | exact HR0.out | (with_reducible refine Kd.C_alloc ?_ _) | (with_reducible refine Kd.C_drewN ?_ _) | (with_reducible refine Kd.C_drew ?_))); (case side2 => exact HC0.out); rintro e w13 ⟨rfl, hb⟩; refine ⟨_, rfl, ?_⟩; have n0_ := Aside0.mk (below_step (by repeat (first | (with_reducible first | exact HB.out | apply below_alloc | apply pw_below_drewN | apply below_drew1) | exact HB.out)) hb); clear HB; have HB := n0_; clear n0_; (try clear hb); (try clear hb2); (try clear hk); (try clear hi)) | ((with_reducible refine gate_callee (f := 43) rfl ?_); refine goesL_ (some 18) rfl rfl Try.func43 (by kernel_rfl) rfl #[.slice A0 l0.length c0] rfl (by (try simp only [List.map_toArray, List.map_cons, List.map_nil]); first | done | rfl | (simp only [List.length_drop, List.length_take]; rfl)) ?_; (with_reducible refine (crc15_Right.calls k _ _ l0 false _ ?side1 ?side2 A6.out).mono ?_); (case side1 => repeat (first | exact (Kd.C_below HR0.out HB.out) | (with_reducible refine Kd.C_alloc ?_ _) | (with_reducible refine Kd.C_drewN ?_ _) | (with_reducible refine Kd.C_drew ?_))); (case side2 => exact HC0.out); rintro e w14 ⟨rfl, hb⟩; refine ⟨_, rfl, ?_⟩; have n0_ := Aside0.mk (below_step (by repeat (first | (with_reducible first | exact HB.out | apply below_alloc | apply pw_below_drewN | apply below_drew1) | exact HB.out)) hb); clear HB; have HB := n0_; clear n0_; (try clear hb); (try clear hb2); (try clear hk); (try clear hi)) | ((with_reducible refine gate_callee (f := 22) rfl ?_); refine goesL_ (some 20) rfl rfl Try.func22 (by kernel_rfl) rfl #[.slice A0 l0.length c0] rfl (by (try simp only [List.map_toArray, List.map_cons, List.map_nil]); first | done | rfl | (simp only [List.length_drop, List.length_take]; rfl)) ?_; (with_reducible refine (magnetoref01_Check.calls k _ _ l0 t475 _ ?side1 ?side2 A7.out).mono ?_); (case side1 => repeat (first | exact (Kd.C_below HR0.out HB.out) | (with_reducible refine Kd.C_alloc ?_ _) | (with_reducible refine Kd.C_drewN ?_ _) | (with_reducible refine Kd.C_drew ?_))); (case side2 => exact HC0.out); rintro e w' ⟨rfl, ⟨nd, rfl⟩⟩; refine ⟨_, rfl, ?_⟩) | (go_at_call 35; (with_reducible refine (magnetolaw02_awake.calls  t476 _ A12.out).mono ?_); rintro e w15 ⟨rfl, hb⟩; have n0_ := Aside0.mk (below_step (by repeat (first | (with_reducible first | exact HB.out | apply below_alloc | apply pw_below_drewN | apply below_drew1) | exact HB.out)) hb); clear HB; have HB := n0_; clear n0_; (try clear hb); (try clear hb2); (try clear hk); (try clear hi)))
            go_ret
            exact ⟨by first | rfl | (simp [errW_none, errW_some] <;> rfl) | (simp [*, errW_none, errW_some] <;> rfl), by repeat (first | (with_reducible first | exact HB.out | apply below_alloc | apply pw_below_drewN | apply below_drew1) | exact HB.out)⟩
        · rw [if_neg c10] at H
          exact absurd H (by simp)
      · rw [if_neg c9] at H
        exact absurd H (by simp)
    · rw [if_neg c8] at H
      have c8b0 : decide (0 ≤ t475) = false := decide_eq_false c8
      clear c8
      by_cases c16 : (l0.length : Int) ≥ 15
      · rw [if_pos c16] at H
        have c16b0 : decide (15 ≤ (l0.length : Int)) = true := decide_eq_true c16
        have c16b1 : decide (15 ≤ l0.length) = true := decide_eq_true (by omega)
        clear c16
        obtain ⟨ji17, hji17⟩ : ∃ j_ : Int, (wrap64 ((l0.length : Int) - 15)) = j_ := ⟨_, rfl⟩
        replace H : (if 0 ≤ (ji17) then (if (ji17) ≤ (l0.length : Int) then ((magnetoref02_Sum.f k (l0.take ((ji17) : Int).toNat)).bind fun t479 => ((magnetolaw02_ints.f k (l0.drop ((ji17) : Int).toNat) t479).bind fun t482 => ((magnetoref02_Sum.f k l0).bind fun t483 => ((magnetoref02_Value.f k t483).bind fun t486 => (if t472 = t486 then (if t473 = 0 then (if (t474 == t482) = true then ((magnetolaw02_awake.f).bind fun t487 => (some t487)) else (none)) else (none)) else (none)))))) else (none)) else (none)) = some r := by first | (rw [hji17] at H; exact H) | (simp only [hji17] at H ⊢; exact H)
        (try rw [hji17] at A5)
        (try rw [hji17] at A6)
        (try rw [hji17] at A7)
        have hji17w : (IntKind.i64.wrap ((l0.length : Int) - 15)) = ji17 := (i64_w _).trans hji17
        by_cases c18 : 0 ≤ (ji17)
        · rw [if_pos c18] at H
          have c18b0 := eq_true c18
          have c18b1 : decide (0 ≤ (ji17)) = true := decide_eq_true c18
          clear c18
          by_cases c19 : (ji17) ≤ (l0.length : Int)
          · rw [if_pos c19] at H
            have c19b0 := eq_true c19
            have c19b1 : decide ((ji17) ≤ (l0.length : Int)) = true := decide_eq_true c19
            clear c19
            have c20b0 := eq_true (of_decide_eq_true (by first | (with_reducible assumption) | assumption) : 0 ≤ (ji17))
            have c21b0 := eq_true (of_decide_eq_true (by first | (with_reducible assumption) | assumption) : (ji17) ≤ (l0.length : Int))
            replace H := Option.bind_eq_some_iff.mp H
            obtain ⟨t479, A220, H⟩ := H
            replace H : ((magnetolaw02_ints.f k (l0.drop ((ji17) : Int).toNat) t479).bind fun t482 => ((magnetoref02_Sum.f k l0).bind fun t483 => ((magnetoref02_Value.f k t483).bind fun t486 => (if t472 = t486 then (if t473 = 0 then (if (t474 == t482) = true then ((magnetolaw02_awake.f).bind fun t487 => (some t487)) else (none)) else (none)) else (none))))) = some r := H
            have A22 := Aside0.mk A220
            clear A220
            replace H := Option.bind_eq_some_iff.mp H
            obtain ⟨t482, A230, H⟩ := H
            replace H : ((magnetoref02_Sum.f k l0).bind fun t483 => ((magnetoref02_Value.f k t483).bind fun t486 => (if t472 = t486 then (if t473 = 0 then (if (t474 == t482) = true then ((magnetolaw02_awake.f).bind fun t487 => (some t487)) else (none)) else (none)) else (none)))) = some r := H
            have A23 := Aside0.mk A230
            clear A230
            replace H := Option.bind_eq_some_iff.mp H
            obtain ⟨t483, A240, H⟩ := H
            replace H : ((magnetoref02_Value.f k t483).bind fun t486 => (if t472 = t486 then (if t473 = 0 then (if (t474 == t482) = true then ((magnetolaw02_awake.f).bind fun t487 => (some t487)) else (none)) else (none)) else (none))) = some r := H
            have A24 := Aside0.mk A240
            clear A240
            replace H := Option.bind_eq_some_iff.mp H
            obtain ⟨t486, A250, H⟩ := H
            replace H : (if t472 = t486 then (if t473 = 0 then (if (t474 == t482) = true then ((magnetolaw02_awake.f).bind fun t487 => (some t487)) else (none)) else (none)) else (none)) = some r := H
            have A25 := Aside0.mk A250
            clear A250
            by_cases c26 : t472 = t486
            · rw [if_pos c26] at H
              have c26b0 : (t472 == t486) = true := beq_iff_eq.mpr c26
              have c26b1 : (t472 != t486) = false := bne_eq_false_iff_eq.mpr c26
              clear c26
              by_cases c27 : t473 = 0
              · rw [if_pos c27] at H
                have c27b0 : (t473 == 0) = true := beq_iff_eq.mpr c27
                have c27b1 : (t473 != 0) = false := bne_eq_false_iff_eq.mpr c27
                clear c27
                by_cases c28 : (t474 == t482) = true
                · rw [if_pos c28] at H
                  have c28b0 : (t474 == t482) = true := c28
                  (try (have c28b1 : decide (t474 = t482) = true := by simpa using c28))
                  (try (have c28b2 : (t474 == t482) = true := by simpa using c28))
                  clear c28
                  replace H := Option.bind_eq_some_iff.mp H
                  obtain ⟨t487, A290, H⟩ := H
                  replace H : (some t487) = some r := H
                  have A29 := Aside0.mk A290
                  clear A290
                  obtain rfl := Option.some.inj H
                  go_enter Try.func11, Try.ntmps11
                  try go_wp2_with (first | ((with_reducible refine gate_callee (f := 36) rfl ?_); refine goesL_ (some 14) rfl rfl Try.func36 (by kernel_rfl) rfl #[.slice A0 l0.length c0] rfl (by (try simp only [List.map_toArray, List.map_cons, List.map_nil]); first | done | rfl | (simp only [List.length_drop, List.length_take]; rfl)) ?_; (with_reducible refine (crc15_Sum.calls _ _ l0 t472 t473 _ ?side1 ?side2 A5.out).mono ?_); (case side1 => repeat (first | exact HR0.out | (with_reducible refine Kd.C_alloc ?_ _) | (with_reducible refine Kd.C_drewN ?_ _) | (with_reducible refine Kd.C_drew ?_))); (case side2 => exact HC0.out); rintro e w30 ⟨rfl, hb⟩; refine ⟨_, rfl, ?_⟩; have n0_ := Aside0.mk (below_step (by repeat (first | (with_reducible first | exact HB.out | apply below_alloc | apply pw_below_drewN | apply below_drew1) | exact HB.out)) hb); clear HB; have HB := n0_; clear n0_; (try clear hb); (try clear hb2); (try clear hk); (try clear hi)) | ((with_reducible refine gate_callee (f := 43) rfl ?_); refine goesL_ (some 18) rfl rfl Try.func43 (by kernel_rfl) rfl #[.slice A0 l0.length c0] rfl (by (try simp only [List.map_toArray, List.map_cons, List.map_nil]); first | done | rfl | (simp only [List.length_drop, List.length_take]; rfl)) ?_; (with_reducible refine (crc15_Right.calls k _ _ l0 t474 _ ?side1 ?side2 A6.out).mono ?_); (case side1 => repeat (first | exact (Kd.C_below HR0.out HB.out) | (with_reducible refine Kd.C_alloc ?_ _) | (with_reducible refine Kd.C_drewN ?_ _) | (with_reducible refine Kd.C_drew ?_))); (case side2 => exact HC0.out); rintro e w31 ⟨rfl, hb⟩; refine ⟨_, rfl, ?_⟩; have n0_ := Aside0.mk (below_step (by repeat (first | (with_reducible first | exact HB.out | apply below_alloc | apply pw_below_drewN | apply below_drew1) | exact HB.out)) hb); clear HB; have HB := n0_; clear n0_; (try clear hb); (try clear hb2); (try clear hk); (try clear hi)) | ((with_reducible refine gate_callee (f := 22) rfl ?_); refine goesL_ (some 20) rfl rfl Try.func22 (by kernel_rfl) rfl #[.slice A0 l0.length c0] rfl (by (try simp only [List.map_toArray, List.map_cons, List.map_nil]); first | done | rfl | (simp only [List.length_drop, List.length_take]; rfl)) ?_; (with_reducible refine (magnetoref01_Check.calls k _ _ l0 t475 _ ?side1 ?side2 A7.out).mono ?_); (case side1 => repeat (first | exact (Kd.C_below HR0.out HB.out) | (with_reducible refine Kd.C_alloc ?_ _) | (with_reducible refine Kd.C_drewN ?_ _) | (with_reducible refine Kd.C_drew ?_))); (case side2 => exact HC0.out); rintro e w' ⟨rfl, ⟨nd, rfl⟩⟩; refine ⟨_, rfl, ?_⟩))
                  (try (rw [drewN_self w31]; generalize hq_ : World.drewN w31 _ = w31; have n0_ : Aside0 (Below w.heap.size w w31) := ⟨by rw [← hq_]; exact (by repeat (first | (with_reducible first | exact HB.out | apply below_alloc | apply pw_below_drewN | apply below_drew1) | exact HB.out))⟩; clear HB hq_; have HB := n0_; clear n0_))
                  have n0_ := Aside0.mk (below_drew1 HB.out)
                  clear HB
                  have HB := n0_
                  clear n0_
                  obtain ⟨i033, hi033, _, hsz33, _⟩ := info_parts info3
                  obtain ⟨A33, hcut33, hA33, hC33⟩ := print_drop_of (P := Try.prog) (Value.int .i64) 0 22 3 .i64 Try.underlying22 hi033 hsz33 A0 c0 l0 (ji17) (of_decide_eq_true (by first | (with_reducible assumption) | assumption)) (of_decide_eq_true (by first | (with_reducible assumption) | assumption)) HC0.out
                  have HR477 := Aside0.mk (Kd.C_of_reads (h1 := fun _ => rfl) (hA33 _ (Kd.reads_of_C HR0.out)))
                  have HC477 := Aside0.mk hC33
                  clear hA33 hC33 hi033 hsz33
                  obtain ⟨i034, hi034, _, hsz34, _⟩ := info_parts info3
                  obtain ⟨hcut34, hA34, hC34⟩ := print_take_of (P := Try.prog) (Value.int .i64) 0 22 3 .i64 Try.underlying22 hi034 hsz34 A0 c0 l0 (ji17) (of_decide_eq_true (by first | (with_reducible assumption) | assumption)) (of_decide_eq_true (by first | (with_reducible assumption) | assumption)) HC0.out
                  have HR478 := Aside0.mk (Kd.C_of_reads (h1 := fun _ => rfl) (hA34 _ (Kd.reads_of_C HR0.out)))
                  have HC478 := Aside0.mk hC34
                  clear hA34 hC34 hi034 hsz34
                  refine start_ (n := 9) (S := fun w' => True) (ds := []) #[false, false, false, false, false, false, false, false, false] (by kernel_rfl) rfl rfl trivial (fun hHeld => ?_); refine with_tabW magnetolaw02_Crc15Sums.tab10 magnetolaw02_Crc15Sums.bits10 (fun HT_ HW_ => ?_)
                  generalize w31.drew = w32 at HB HR477 HR478 hHeld ⊢
                  refine pure_ (i := 0) (N := some 41) (v := ?_) (a' := ?_) #[true, false, false, false, false, false, false, false, false] rfl rfl (any_of HT_.out (by kernel_rfl)) (fun _ _ _ h => h) (Or.inl ⟨by rfl, ?_⟩) ?_ ?_
                  rotate_left
                  · intro w'
                    go_simp
                    with_reducible rfl
                  rotate_left
                  · simp only [Act.put, List.setIfInBounds_toArray, List.set_cons_zero, List.set_cons_succ, i64_w, i32_w]
                    rfl
                  refine pure_ (i := 1) (N := some 42) (v := ?_) (a' := ?_) #[true, true, false, false, false, false, false, false, false] rfl rfl (any_of HT_.out (by kernel_rfl)) (fun _ _ _ h => h) (Or.inl ⟨by rfl, ?_⟩) ?_ ?_
                  rotate_left
                  · intro w'
                    go_simp
                    with_reducible rfl
                  rotate_left
                  · simp only [Act.put, List.setIfInBounds_toArray, List.set_cons_zero, List.set_cons_succ, i64_w, i32_w]
                    rfl
                  refine pure_ (i := 2) (N := some 43) (v := ?_) (a' := ?_) #[true, true, true, false, false, false, false, false, false] rfl rfl (any_of HT_.out (by kernel_rfl)) (fun _ _ _ h => h) (Or.inl ⟨by rfl, ?_⟩) ?_ ?_
                  rotate_left
                  · intro w'
                    go_simp
                    with_reducible rfl
                  rotate_left
                  · simp only [Act.put, List.setIfInBounds_toArray, List.set_cons_zero, List.set_cons_succ, i64_w, i32_w]
                    rfl
                  refine pure_ (i := 3) (N := some 44) (v := ?_) (a' := ?_) #[true, true, true, true, false, false, false, false, false] rfl rfl (any_of HT_.out (by kernel_rfl)) (fun _ _ _ h => h) (Or.inl ⟨by rfl, ?_⟩) ?_ ?_
                  rotate_left
                  · intro w'
                    go_simp
                    with_reducible rfl
                  rotate_left
                  · simp only [Act.put, List.setIfInBounds_toArray, List.set_cons_zero, List.set_cons_succ, i64_w, i32_w]
                    rfl
                  refine pure_ (i := 4) (N := some 45) (v := ?_) (a' := ?_) #[true, true, true, true, true, false, false, false, false] rfl rfl (any_of HT_.out (by kernel_rfl)) (fun _ _ _ h => h) (Or.inl ⟨by rfl, ?_⟩) ?_ ?_
                  rotate_left
                  · intro w'
                    go_simp
                    with_reducible rfl
                  rotate_left
                  · simp only [Act.put, List.setIfInBounds_toArray, List.set_cons_zero, List.set_cons_succ, i64_w, i32_w]
                    rfl
                  refine pure_ (i := 5) (N := some 46) (v := ?_) (a' := ?_) #[true, true, true, true, true, true, false, false, false] rfl rfl (any_of HT_.out (by kernel_rfl)) (fun _ _ _ h => h) (Or.inl ⟨by rfl, ?_⟩) ?_ ?_
                  rotate_left
                  · intro w'
                    go_simp
                    with_reducible rfl
                  rotate_left
                  · simp only [Act.put, List.setIfInBounds_toArray, List.set_cons_zero, List.set_cons_succ, i64_w, i32_w]
                    rfl
                  refine one_ (i := 6) (N := some 47) #[true, true, true, true, true, true, true, false, false] rfl rfl (one_of HT_.out (by kernel_rfl)) (by decide) (fun K hK => ?_)
                  refine goes_ Try.func44 (by kernel_rfl) rfl #[.slice A0 (l0.take ((ji17) : Int).toNat).length c0] (by rfl) rfl rfl (by (try simp only [List.map_toArray, List.map_cons, List.map_nil]); first | done | (rw [show (l0.take ((ji17) : Int).toNat).length = (ji17).toNat from (by rw [List.length_take]; have h_ : ((ji17) : Int) ≤ (l0.length : Int) := of_decide_eq_true (by first | (with_reducible assumption) | assumption); omega)] <;> rfl) | (simp only [hji17]; rfl) | rfl | (simp only [List.length_drop, List.length_take]; rfl)) ?_
                  with_reducible refine (magnetoref02_Sum.calls k _ _ (l0.take ((ji17) : Int).toNat) t479 _ ?side1 ?side2 A22.out).mono ?_
                  (case side1 => repeat (first | exact (Kd.C_below HR478.out HB.out) | (with_reducible refine Kd.C_alloc ?_ _) | (with_reducible refine Kd.C_drewN ?_ _) | (with_reducible refine Kd.C_drew ?_)))
                  (case side2 => exact HC478.out)
                  rintro e w35 ⟨v480, rfl, ho0, hb⟩
                  refine ⟨_, rfl, ?_⟩
                  have n0_ := Aside0.mk (Kd.R_lower ho0 (below_size (by repeat (first | (with_reducible first | exact HB.out | apply below_alloc | apply pw_below_drewN | apply below_drew1) | exact HB.out))))
                  have n1_ := Aside0.mk (below_step (by repeat (first | (with_reducible first | exact HB.out | apply below_alloc | apply pw_below_drewN | apply below_drew1) | exact HB.out)) hb)
                  clear HB
                  have HO481 := n0_
                  have HB := n1_
                  clear n0_ n1_
                  (try clear hb)
                  (try clear hb2)
                  (try clear hk)
                  (try clear hi)
                  (try clear ho0)
                  obtain ⟨Ao36, co36, eo36⟩ := Kd.R_slice HO481.out
                  (first | subst eo36 | (injection eo36 with f1_ f2_ f3_; have f4_ := f1_.symm; have f5_ := f3_.symm; clear f1_ f2_ f3_; subst f4_; subst f5_))
                  refine hK.out _ _ trivial (fun hHeld => ?_)
                  clear hK K
                  refine norm_ (a' := ?_) ?_ ?_
                  rotate_left
                  · show Act.put _ (some 47) _ = _
                    simp only [Act.put, List.setIfInBounds_toArray, List.set_cons_zero, List.set_cons_succ, i64_w, i32_w]
                    rfl
                  refine one_ (i := 7) (N := some 48) #[true, true, true, true, true, true, true, true, false] rfl rfl (one_of HT_.out (by kernel_rfl)) (by decide) (fun K hK => ?_)
                  refine goes_ Try.func39 (by kernel_rfl) rfl #[.slice A33 (l0.drop ((ji17) : Int).toNat).length (c0 - (ji17).toNat), .slice Ao36 t479.length co36] (by rfl) rfl rfl (by (try simp only [List.map_toArray, List.map_cons, List.map_nil]); first | done | (rw [show (l0.drop ((ji17) : Int).toNat).length = (l0.length - (ji17).toNat) from List.length_drop] <;> rfl) | (simp only [hji17]; rfl) | rfl | (simp only [List.length_drop, List.length_take]; rfl)) ?_
                  with_reducible refine (magnetolaw02_ints.calls k _ _ (l0.drop ((ji17) : Int).toNat) _ _ t479 t482 _ ?side1 ?side2 ?side3 ?side4 A23.out).mono ?_
                  (case side1 => repeat (first | exact (Kd.C_below HR477.out HB.out) | (with_reducible refine Kd.C_alloc ?_ _) | (with_reducible refine Kd.C_drewN ?_ _) | (with_reducible refine Kd.C_drew ?_)))
                  (case side2 => exact HC477.out)
                  (case side3 => repeat (first | exact (Kd.R_reads' HO481.out).2.2 | (with_reducible refine Kd.C_alloc ?_ _) | (with_reducible refine Kd.C_drewN ?_ _) | (with_reducible refine Kd.C_drew ?_)))
                  (case side4 => exact (Kd.R_reads' HO481.out).2.1)
                  rintro e w' ⟨rfl, ⟨nd, rfl⟩⟩
                  refine ⟨_, rfl, ?_⟩
                  refine hK.out _ _ trivial (fun hHeld => ?_)
                  clear hK K
                  refine norm_ (a' := ?_) ?_ ?_
                  rotate_left
                  · show Act.put _ (some 48) _ = _
                    simp only [Act.put, List.setIfInBounds_toArray, List.set_cons_zero, List.set_cons_succ, i64_w, i32_w]
                    rfl
                  refine pure_ (i := 8) (N := some 6) (v := ?_) (a' := ?_) #[true, true, true, true, true, true, true, true, true] rfl rfl (any_of HT_.out (by kernel_rfl)) (fun _ _ _ h => h) (Or.inl ⟨by rfl, ?_⟩) ?_ ?_
                  rotate_left
                  · intro w'
                    go_simp
                    with_reducible rfl
                  rotate_left
                  · simp only [Act.put, List.setIfInBounds_toArray, List.set_cons_zero, List.set_cons_succ, i64_w, i32_w]
                    rfl
                  refine done_ (done_of HT_.out (by kernel_rfl)) ?_
                  try go_wp2_with (first | ((with_reducible refine gate_callee (f := 44) rfl ?_); refine goesL_ (some 51) rfl rfl Try.func44 (by kernel_rfl) rfl #[.slice A0 l0.length c0] rfl (by (try simp only [List.map_toArray, List.map_cons, List.map_nil]); first | done | rfl | (simp only [List.length_drop, List.length_take]; rfl)) ?_; (with_reducible refine (magnetoref02_Sum.calls k _ _ l0 t483 _ ?side1 ?side2 A24.out).mono ?_); (case side1 => repeat (first | exact (Kd.C_below HR0.out (by repeat (first | (with_reducible first | exact HB.out | apply below_alloc | apply pw_below_drewN | apply below_drew1) | exact HB.out))) | (with_reducible refine Kd.C_alloc ?_ _) | (with_reducible refine Kd.C_drewN ?_ _) | (with_reducible refine Kd.C_drew ?_))); (case side2 => exact HC0.out); rintro e w37 ⟨v484, rfl, ho0, hb⟩; refine ⟨_, rfl, ?_⟩; have n0_ := Aside0.mk (Kd.R_elder' (by (with_reducible repeat (first | apply Kd.R_alloc | apply Kd.R_drewN | apply Kd.R_drew)); exact HO481.out) (Kd.R_base ho0) hb); have n1_ := Aside0.mk (Kd.R_lower (Kd.R_new' ho0 (Kd.R_lt (by (with_reducible repeat (first | apply Kd.R_alloc | apply Kd.R_drewN | apply Kd.R_drew)); exact HO481.out))) (below_size (by repeat (first | (with_reducible first | exact HB.out | apply below_alloc | apply pw_below_drewN | apply below_drew1) | exact HB.out)))); have n2_ := Aside0.mk (below_step (by repeat (first | (with_reducible first | exact HB.out | apply below_alloc | apply pw_below_drewN | apply below_drew1) | exact HB.out)) hb); clear HO481; clear HB; have HO481 := n0_; have HO485 := n1_; have HB := n2_; clear n0_ n1_ n2_; (try clear hb); (try clear hb2); (try clear hk); (try clear hi); (try clear ho0); obtain ⟨Ao38, co38, eo38⟩ := Kd.R_slice HO485.out; subst eo38) | ((with_reducible refine gate_callee (f := 41) rfl ?_); refine goesL_ (some 52) rfl rfl Try.func41 (by kernel_rfl) rfl #[.slice Ao38 t483.length co38] rfl (by (try simp only [List.map_toArray, List.map_cons, List.map_nil]); first | done | rfl | (simp only [List.length_drop, List.length_take]; rfl)) ?_; (with_reducible refine (magnetoref02_Value.calls k _ _ t483 t486 _ ?side1 ?side2 A25.out).mono ?_); (case side1 => repeat (first | exact (Kd.R_reads' HO485.out).2.2 | (with_reducible refine Kd.C_alloc ?_ _) | (with_reducible refine Kd.C_drewN ?_ _) | (with_reducible refine Kd.C_drew ?_))); (case side2 => exact (Kd.R_reads' HO485.out).2.1); rintro e w' ⟨rfl, ⟨nd, rfl⟩⟩; refine ⟨_, rfl, ?_⟩) | (go_at_call 35; (with_reducible refine (magnetolaw02_awake.calls  t487 _ A29.out).mono ?_); rintro e w39 ⟨rfl, hb⟩; have n0_ := Aside0.mk (Kd.R_below (by (with_reducible repeat (first | apply Kd.R_alloc | apply Kd.R_drewN | apply Kd.R_drew)); exact HO481.out) hb); have n1_ := Aside0.mk (Kd.R_below (by (with_reducible repeat (first | apply Kd.R_alloc | apply Kd.R_drewN | apply Kd.R_drew)); exact HO485.out) hb); have n2_ := Aside0.mk (below_step (by repeat (first | (with_reducible first | exact HB.out | apply below_alloc | apply pw_below_drewN | apply below_drew1) | exact HB.out)) hb); clear HO481; clear HO485; clear HB; have HO481 := n0_; have HO485 := n1_; have HB := n2_; clear n0_ n1_ n2_; (try clear hb); (try clear hb2); (try clear hk); (try clear hi)))
                  go_ret
                  exact ⟨by first | rfl | (simp [errW_none, errW_some] <;> rfl) | (simp only [← hji17]; first | rfl | (simp [errW_none, errW_some] <;> rfl)) | (simp [*, errW_none, errW_some] <;> rfl), by repeat (first | (with_reducible first | exact HB.out | apply below_alloc | apply pw_below_drewN | apply below_drew1) | exact HB.out)⟩
                · rw [if_neg c28] at H
                  exact absurd H (by simp)
              · rw [if_neg c27] at H
                exact absurd H (by simp)
            · rw [if_neg c26] at H
              exact absurd H (by simp)
          · rw [if_neg c19] at H
            exact absurd H (by simp)
        · rw [if_neg c18] at H
          exact absurd H (by simp)
      · rw [if_neg c16] at H
        have c16b0 : decide (15 ≤ (l0.length : Int)) = false := decide_eq_false c16
        have c16b1 : decide (15 ≤ l0.length) = false := decide_eq_false (by omega)
        clear c16
        replace H := Option.bind_eq_some_iff.mp H
        obtain ⟨t488, A400, H⟩ := H
        replace H : ((magnetoref02_Value.f k t488).bind fun t491 => (if t472 = t491 then (if t473 = 0 then (if (t474 == false) = true then ((magnetolaw02_awake.f).bind fun t492 => (some t492)) else (none)) else (none)) else (none))) = some r := H
        have A40 := Aside0.mk A400
        clear A400
        replace H := Option.bind_eq_some_iff.mp H
        obtain ⟨t491, A410, H⟩ := H
        replace H : (if t472 = t491 then (if t473 = 0 then (if (t474 == false) = true then ((magnetolaw02_awake.f).bind fun t492 => (some t492)) else (none)) else (none)) else (none)) = some r := H
        have A41 := Aside0.mk A410
        clear A410
        by_cases c42 : t472 = t491
        · rw [if_pos c42] at H
          have c42b0 : (t472 == t491) = true := beq_iff_eq.mpr c42
          have c42b1 : (t472 != t491) = false := bne_eq_false_iff_eq.mpr c42
          clear c42
          by_cases c43 : t473 = 0
          · rw [if_pos c43] at H
            have c43b0 : (t473 == 0) = true := beq_iff_eq.mpr c43
            have c43b1 : (t473 != 0) = false := bne_eq_false_iff_eq.mpr c43
            clear c43
            by_cases c44 : (t474 == false) = true
            · rw [if_pos c44] at H
              have c44b0 : (t474 == false) = true := c44
              (try (have c44b1 : decide (t474 = false) = true := by simpa using c44))
              (try (have c44b2 : (t474 == false) = true := by simpa using c44))
              clear c44
              replace H := Option.bind_eq_some_iff.mp H
              obtain ⟨t492, A450, H⟩ := H
              replace H : (some t492) = some r := H
              have A45 := Aside0.mk A450
              clear A450
              obtain rfl := Option.some.inj H
              go_enter Try.func11, Try.ntmps11
              go_wp2_with (first | ((with_reducible refine gate_callee (f := 36) rfl ?_); refine goesL_ (some 14) rfl rfl Try.func36 (by kernel_rfl) rfl #[.slice A0 l0.length c0] rfl (by (try simp only [List.map_toArray, List.map_cons, List.map_nil]); first | done | rfl | (simp only [List.length_drop, List.length_take]; rfl)) ?_; (with_reducible refine (crc15_Sum.calls _ _ l0 t472 t473 _ ?side1 ?side2 A5.out).mono ?_); (case side1 => repeat (first | exact HR0.out | (with_reducible refine Kd.C_alloc ?_ _) | (with_reducible refine Kd.C_drewN ?_ _) | (with_reducible refine Kd.C_drew ?_))); (case side2 => exact HC0.out); rintro e w46 ⟨rfl, hb⟩; refine ⟨_, rfl, ?_⟩; have n0_ := Aside0.mk (below_step (by repeat (first | (with_reducible first | exact HB.out | apply below_alloc | apply pw_below_drewN | apply below_drew1) | exact HB.out)) hb); clear HB; have HB := n0_; clear n0_; (try clear hb); (try clear hb2); (try clear hk); (try clear hi)) | ((with_reducible refine gate_callee (f := 43) rfl ?_); refine goesL_ (some 18) rfl rfl Try.func43 (by kernel_rfl) rfl #[.slice A0 l0.length c0] rfl (by (try simp only [List.map_toArray, List.map_cons, List.map_nil]); first | done | rfl | (simp only [List.length_drop, List.length_take]; rfl)) ?_; (with_reducible refine (crc15_Right.calls k _ _ l0 t474 _ ?side1 ?side2 A6.out).mono ?_); (case side1 => repeat (first | exact (Kd.C_below HR0.out HB.out) | (with_reducible refine Kd.C_alloc ?_ _) | (with_reducible refine Kd.C_drewN ?_ _) | (with_reducible refine Kd.C_drew ?_))); (case side2 => exact HC0.out); rintro e w47 ⟨rfl, hb⟩; refine ⟨_, rfl, ?_⟩; have n0_ := Aside0.mk (below_step (by repeat (first | (with_reducible first | exact HB.out | apply below_alloc | apply pw_below_drewN | apply below_drew1) | exact HB.out)) hb); clear HB; have HB := n0_; clear n0_; (try clear hb); (try clear hb2); (try clear hk); (try clear hi)) | ((with_reducible refine gate_callee (f := 22) rfl ?_); refine goesL_ (some 20) rfl rfl Try.func22 (by kernel_rfl) rfl #[.slice A0 l0.length c0] rfl (by (try simp only [List.map_toArray, List.map_cons, List.map_nil]); first | done | rfl | (simp only [List.length_drop, List.length_take]; rfl)) ?_; (with_reducible refine (magnetoref01_Check.calls k _ _ l0 t475 _ ?side1 ?side2 A7.out).mono ?_); (case side1 => repeat (first | exact (Kd.C_below HR0.out HB.out) | (with_reducible refine Kd.C_alloc ?_ _) | (with_reducible refine Kd.C_drewN ?_ _) | (with_reducible refine Kd.C_drew ?_))); (case side2 => exact HC0.out); rintro e w' ⟨rfl, ⟨nd, rfl⟩⟩; refine ⟨_, rfl, ?_⟩) | ((with_reducible refine gate_callee (f := 44) rfl ?_); refine goesL_ (some 51) rfl rfl Try.func44 (by kernel_rfl) rfl #[.slice A0 l0.length c0] rfl (by (try simp only [List.map_toArray, List.map_cons, List.map_nil]); first | done | rfl | (simp only [List.length_drop, List.length_take]; rfl)) ?_; (with_reducible refine (magnetoref02_Sum.calls k _ _ l0 t488 _ ?side1 ?side2 A40.out).mono ?_); (case side1 => repeat (first | exact (Kd.C_below HR0.out (by repeat (first | (with_reducible first | exact HB.out | apply below_alloc | apply pw_below_drewN | apply below_drew1) | exact HB.out))) | (with_reducible refine Kd.C_alloc ?_ _) | (with_reducible refine Kd.C_drewN ?_ _) | (with_reducible refine Kd.C_drew ?_))); (case side2 => exact HC0.out); rintro e w48 ⟨v489, rfl, ho0, hb⟩; refine ⟨_, rfl, ?_⟩; have n0_ := Aside0.mk (Kd.R_lower ho0 (below_size (by repeat (first | (with_reducible first | exact HB.out | apply below_alloc | apply pw_below_drewN | apply below_drew1) | exact HB.out)))); have n1_ := Aside0.mk (below_step (by repeat (first | (with_reducible first | exact HB.out | apply below_alloc | apply pw_below_drewN | apply below_drew1) | exact HB.out)) hb); clear HB; have HO490 := n0_; have HB := n1_; clear n0_ n1_; (try clear hb); (try clear hb2); (try clear hk); (try clear hi); (try clear ho0); obtain ⟨Ao49, co49, eo49⟩ := Kd.R_slice HO490.out; subst eo49) | ((with_reducible refine gate_callee (f := 41) rfl ?_); refine goesL_ (some 52) rfl rfl Try.func41 (by kernel_rfl) rfl #[.slice Ao49 t488.length co49] rfl (by (try simp only [List.map_toArray, List.map_cons, List.map_nil]); first | done | rfl | (simp only [List.length_drop, List.length_take]; rfl)) ?_; (with_reducible refine (magnetoref02_Value.calls k _ _ t488 t491 _ ?side1 ?side2 A41.out).mono ?_); (case side1 => repeat (first | exact (Kd.R_reads' HO490.out).2.2 | (with_reducible refine Kd.C_alloc ?_ _) | (with_reducible refine Kd.C_drewN ?_ _) | (with_reducible refine Kd.C_drew ?_))); (case side2 => exact (Kd.R_reads' HO490.out).2.1); rintro e w' ⟨rfl, ⟨nd, rfl⟩⟩; refine ⟨_, rfl, ?_⟩) | (go_at_call 35; (with_reducible refine (magnetolaw02_awake.calls  t492 _ A45.out).mono ?_); rintro e w50 ⟨rfl, hb⟩; have n0_ := Aside0.mk (Kd.R_below (by (with_reducible repeat (first | apply Kd.R_alloc | apply Kd.R_drewN | apply Kd.R_drew)); exact HO490.out) hb); have n1_ := Aside0.mk (below_step (by repeat (first | (with_reducible first | exact HB.out | apply below_alloc | apply pw_below_drewN | apply below_drew1) | exact HB.out)) hb); clear HO490; clear HB; have HO490 := n0_; have HB := n1_; clear n0_ n1_; (try clear hb); (try clear hb2); (try clear hk); (try clear hi)))
              go_ret
              exact ⟨by first | rfl | (simp [errW_none, errW_some] <;> rfl) | (simp [*, errW_none, errW_some] <;> rfl), by repeat (first | (with_reducible first | exact HB.out | apply below_alloc | apply pw_below_drewN | apply below_drew1) | exact HB.out)⟩
            · rw [if_neg c44] at H
              exact absurd H (by simp)
          · rw [if_neg c43] at H
            exact absurd H (by simp)
        · rw [if_neg c42] at H
          exact absurd H (by simp)

/-- THE ONE PURE STATEMENT of magnetolaw02_Crc15Sums: yours. -/
def magnetolaw02_Crc15Sums.Pure : Prop := ∀ (l0 : List Int), l0.length ≤ maxLen → l0.length * 8 ≤ 140737488351232 → (∀ x ∈ l0, (Lit.int .i64 x).wf = true) → ∃ k, magnetolaw02_Crc15Sums.f k l0 = some true
theorem magnetolaw02_Crc15Sums.walk (P : magnetolaw02_Crc15Sums.Pure) (a0 : Option Addr) (len0 cap0 : Nat) (z0 : List Int) (w : World) (w0 : (a0 = none ∧ len0 = 0 ∧ cap0 = 0 ∧ z0 = []) ∨ ∃ x, a0 = some x ∧ len0 ≤ cap0 ∧ cap0 ≤ maxLen ∧ z0.length = cap0 ∧ (∀ i, i < z0.length → w.cell? (x.add i) = some (.int .i64 (z0.getD i 0))) ∧ ∀ n ∈ z0, (Lit.int .i64 n).wf = true) (y0 : len0 * 8 ≤ 140737488351232) :
    Calls Try.prog 11 #[.slice a0 len0 cap0] w fun e w' => e = .returned (.bool true) ∧ Below w.heap.size w w' := by
  obtain ⟨l0, rfl, hr0, hm0, hw0, hc0⟩ := ReadsInt.ofRowC w0
  obtain ⟨k, h⟩ := P l0 hm0 y0 hw0
  refine (magnetolaw02_Crc15Sums.calls k _ _ l0 true w (Kd.C_of_reads (d := (0 : Int)) (h1 := fun _ => rfl) hr0) hc0 h).mono ?_
  rintro e w' ⟨rfl, hd⟩
  exact ⟨rfl, hd⟩

/-! ### magnetolaw02_Crc15Right: function 12 -/
mutual
def magnetolaw02_Crc15Right.j0 : Nat → List Int → Int → Int → List Int → Bool → Option (Bool)
  | 0, _, _, _, _, _ => none
  | k + 1, x0, x1, x5, x7, x49 => if x49 = true then (none) else ((some (([] : List Int) : List Int)).bind fun y502 => (if y502.length + x0.length < 17592186044416 then ((some (y502 ++ x0 : List Int)).bind fun y505 => (if y505.length + x7.length < 17592186044416 then ((some (y505 ++ x7 : List Int)).bind fun y508 => ((crc15_Sum.f y508).bind fun bt511 => ((crc15_Bits.f k (Int.tmod (wrap64 ((Int.tmod x1 32768) + 32768)) 32768)).bind fun bt513 => (if bt511.2 = 0 then (if bt511.1 = 0 then ((crc15_Right.f k y508).bind fun t517 => (if t517 = true then (magnetolaw02_Crc15Right.j1 k x0 (Int.tmod (wrap64 ((Int.tmod x1 32768) + 32768)) 32768) x5 bt513.1 (bt513.2 != 0)) else (none))) else (none)) else (none))))) else (none))) else (none)))
def magnetolaw02_Crc15Right.j1 : Nat → List Int → Int → Int → List Int → Bool → Option (Bool)
  | 0, _, _, _, _, _ => none
  | k + 1, x0, x1, x5, x12, x83 => if x83 = true then (none) else ((some (([] : List Int) : List Int)).bind fun y518 => (if y518.length + x0.length < 17592186044416 then ((some (y518 ++ x0 : List Int)).bind fun y521 => (if y521.length + x12.length < 17592186044416 then ((some (y521 ++ x12 : List Int)).bind fun y524 => ((crc15_Sum.f y524).bind fun bt527 => ((crc15_Right.f k y524).bind fun t529 => (if (t529 == (x1 == x5)) = true then (if bt527.2 = 0 then (if ((bt527.1 == 0) == (x1 == x5)) = true then ((magnetolaw02_awake.f).bind fun t530 => (some t530)) else (none)) else (none)) else (none))))) else (none))) else (none)))
end
def magnetolaw02_Crc15Right.f (k : Nat) (l0 : List Int) (a1 : Int) : Option (Bool) := if (l0.length : Int) > 300 then ((magnetolaw02_awake.f).bind fun t493 => (some t493)) else ((crc15_Sum.f l0).bind fun bt494 => (if bt494.2 = 0 then ((crc15_Bits.f k bt494.1).bind fun bt498 => (if bt498.2 = 0 then (magnetolaw02_Crc15Right.j0 k l0 a1 bt494.1 bt498.1 ((bt498.1.length : Int) != 15)) else (none))) else (if bt494.1 = 0 then ((crc15_Right.f k l0).bind fun t496 => (if t496 = true then (none) else ((magnetolaw02_awake.f).bind fun t497 => (some t497)))) else (none))))
theorem magnetolaw02_Crc15Right.mono_l : ∀ k, (∀ y0 y1 y2 y3 y4, LeO (magnetolaw02_Crc15Right.j0 k y0 y1 y2 y3 y4) (magnetolaw02_Crc15Right.j0 (k + 1) y0 y1 y2 y3 y4)) ∧ (∀ y0 y1 y2 y3 y4, LeO (magnetolaw02_Crc15Right.j1 k y0 y1 y2 y3 y4) (magnetolaw02_Crc15Right.j1 (k + 1) y0 y1 y2 y3 y4))
  | 0 => ⟨fun _ _ _ _ _ r h => by simp [magnetolaw02_Crc15Right.j0] at h, fun _ _ _ _ _ r h => by simp [magnetolaw02_Crc15Right.j1] at h⟩
  | k + 1 => by
    obtain ⟨ih0, ih1⟩ := magnetolaw02_Crc15Right.mono_l k
    refine ⟨?_, ?_⟩
    · intro y0 y1 y2 y3 y4
      unfold magnetolaw02_Crc15Right.j0
      repeat' first
      | (with_reducible exact ih0 _ _ _ _ _)
      | (with_reducible exact ih1 _ _ _ _ _)
      | (with_reducible exact crc15_Bits.mono _ _)
      | (with_reducible exact crc15_Right.mono _ _)
      | (with_reducible exact LeO.refl _)
      | (with_reducible exact LeO.none _)
      | (with_reducible refine LeO.ite ?_ ?_)
      | (with_reducible refine LeO.bind ?_ (fun _ => ?_))
      | exact ih0 _ _ _ _ _
      | exact ih1 _ _ _ _ _
      | exact crc15_Bits.mono _ _
      | exact crc15_Right.mono _ _
      | exact LeO.none _
      | refine LeO.ite ?_ ?_
      | refine LeO.bind ?_ (fun _ => ?_)
    · intro y0 y1 y2 y3 y4
      unfold magnetolaw02_Crc15Right.j1
      repeat' first
      | (with_reducible exact ih0 _ _ _ _ _)
      | (with_reducible exact ih1 _ _ _ _ _)
      | (with_reducible exact crc15_Bits.mono _ _)
      | (with_reducible exact crc15_Right.mono _ _)
      | (with_reducible exact LeO.refl _)
      | (with_reducible exact LeO.none _)
      | (with_reducible refine LeO.ite ?_ ?_)
      | (with_reducible refine LeO.bind ?_ (fun _ => ?_))
      | exact ih0 _ _ _ _ _
      | exact ih1 _ _ _ _ _
      | exact crc15_Bits.mono _ _
      | exact crc15_Right.mono _ _
      | exact LeO.none _
      | refine LeO.ite ?_ ?_
      | refine LeO.bind ?_ (fun _ => ?_)
theorem magnetolaw02_Crc15Right.mono : ∀ a0 a1 k, LeO (magnetolaw02_Crc15Right.f k a0 a1) (magnetolaw02_Crc15Right.f (k + 1) a0 a1) := by
  intro a0 a1 k
  obtain ⟨ih0, ih1⟩ := magnetolaw02_Crc15Right.mono_l k
  unfold magnetolaw02_Crc15Right.f
  repeat' first
      | (with_reducible exact ih0 _ _ _ _ _)
      | (with_reducible exact ih1 _ _ _ _ _)
      | (with_reducible exact crc15_Bits.mono _ _)
      | (with_reducible exact crc15_Right.mono _ _)
      | (with_reducible exact LeO.refl _)
      | (with_reducible exact LeO.none _)
      | (with_reducible refine LeO.ite ?_ ?_)
      | (with_reducible refine LeO.bind ?_ (fun _ => ?_))
      | exact ih0 _ _ _ _ _
      | exact ih1 _ _ _ _ _
      | exact crc15_Bits.mono _ _
      | exact crc15_Right.mono _ _
      | exact LeO.none _
      | refine LeO.ite ?_ ?_
      | refine LeO.bind ?_ (fun _ => ?_)
set_option maxHeartbeats 8000000 in
set_option maxRecDepth 100000 in
theorem magnetolaw02_Crc15Right.calls (k : Nat) (A0 : Option Addr) (c0 : Nat) (l0 : List Int) (a1 : Int) (r : Bool) (w : World) (hr0 : Kd.C (Kd.int .i64) w A0 l0.length l0) (hc0 : l0.length ≤ c0) (h : magnetolaw02_Crc15Right.f k l0 a1 = some r) :
    Calls Try.prog 12 #[.slice A0 l0.length c0, .int .i64 a1] w fun e w' => e = .returned (.bool r) ∧ Below w.heap.size w w' := by
  have HR0 := Aside0.mk hr0
  have HC0 := Aside0.mk hc0
  clear hr0 hc0
  have HB := Aside0.mk (Below.refl w.heap.size w)
  have H : (if (l0.length : Int) > 300 then ((magnetolaw02_awake.f).bind fun t493 => (some t493)) else ((crc15_Sum.f l0).bind fun bt494 => (if bt494.2 = 0 then ((crc15_Bits.f k bt494.1).bind fun bt498 => (if bt498.2 = 0 then (magnetolaw02_Crc15Right.j0 k l0 a1 bt494.1 bt498.1 ((bt498.1.length : Int) != 15)) else (none))) else (if bt494.1 = 0 then ((crc15_Right.f k l0).bind fun t496 => (if t496 = true then (none) else ((magnetolaw02_awake.f).bind fun t497 => (some t497)))) else (none))))) = some r := h
  clear h
  by_cases c3 : (l0.length : Int) > 300
  · rw [if_pos c3] at H
    have c3b0 : decide (300 < (l0.length : Int)) = true := decide_eq_true c3
    have c3b1 : decide (300 < l0.length) = true := decide_eq_true (by omega)
    clear c3
    replace H := Option.bind_eq_some_iff.mp H
    obtain ⟨t493, A40, H⟩ := H
    replace H : (some t493) = some r := H
    have A4 := Aside0.mk A40
    clear A40
    obtain rfl := Option.some.inj H
    go_enter Try.func12, Try.ntmps12
    go_wp2_with (first | ((with_reducible refine gate_callee (f := 35) rfl ?_); refine goesL_ (some 20) rfl rfl Try.func35 (by kernel_rfl) rfl #[] rfl (by (try simp only [List.map_toArray, List.map_cons, List.map_nil]); first | done | rfl | (simp only [List.length_drop, List.length_take]; rfl)) ?_; (with_reducible refine (magnetolaw02_awake.calls  t493 _ A4.out).mono ?_); rintro e w5 ⟨rfl, hb⟩; refine ⟨_, rfl, ?_⟩; have n0_ := Aside0.mk (below_step (by repeat (first | (with_reducible first | exact HB.out | apply below_alloc | apply pw_below_drewN | apply below_drew1) | exact HB.out)) hb); clear HB; have HB := n0_; clear n0_; (try clear hb); (try clear hb2); (try clear hk); (try clear hi)))
    go_ret
    exact ⟨by first | rfl | (simp [errW_none, errW_some] <;> rfl) | (simp [*, errW_none, errW_some] <;> rfl), by repeat (first | (with_reducible first | exact HB.out | apply below_alloc | apply pw_below_drewN | apply below_drew1) | exact HB.out)⟩
  · rw [if_neg c3] at H
    have c3b0 : decide (300 < (l0.length : Int)) = false := decide_eq_false c3
    have c3b1 : decide (300 < l0.length) = false := decide_eq_false (by omega)
    clear c3
    replace H := Option.bind_eq_some_iff.mp H
    obtain ⟨⟨t494, t495⟩, A60, H⟩ := H
    replace H : (if t495 = 0 then ((crc15_Bits.f k t494).bind fun bt498 => (if bt498.2 = 0 then (magnetolaw02_Crc15Right.j0 k l0 a1 t494 bt498.1 ((bt498.1.length : Int) != 15)) else (none))) else (if t494 = 0 then ((crc15_Right.f k l0).bind fun t496 => (if t496 = true then (none) else ((magnetolaw02_awake.f).bind fun t497 => (some t497)))) else (none))) = some r := H
    have A6 := Aside0.mk A60
    clear A60
    by_cases c7 : t495 = 0
    · rw [if_pos c7] at H
      have c7b0 : (t495 == 0) = true := beq_iff_eq.mpr c7
      have c7b1 : (t495 != 0) = false := bne_eq_false_iff_eq.mpr c7
      clear c7
      replace H := Option.bind_eq_some_iff.mp H
      obtain ⟨⟨t498, t499⟩, A80, H⟩ := H
      replace H : (if t499 = 0 then (magnetolaw02_Crc15Right.j0 k l0 a1 t494 t498 ((t498.length : Int) != 15)) else (none)) = some r := H
      have A8 := Aside0.mk A80
      clear A80
      have HC9 := Aside0.mk H
      clear H
      go_enter Try.func12, Try.ntmps12
      go_upto_region 7 with (first | ((with_reducible refine gate_callee (f := 36) rfl ?_); refine goesL_ (some 23) rfl rfl Try.func36 (by kernel_rfl) rfl #[.slice A0 l0.length c0] rfl (by (try simp only [List.map_toArray, List.map_cons, List.map_nil]); first | done | rfl | (simp only [List.length_drop, List.length_take]; rfl)) ?_; (with_reducible refine (crc15_Sum.calls _ _ l0 t494 t495 _ ?side1 ?side2 A6.out).mono ?_); (case side1 => repeat (first | exact HR0.out | (with_reducible refine Kd.C_alloc ?_ _) | (with_reducible refine Kd.C_drewN ?_ _) | (with_reducible refine Kd.C_drew ?_))); (case side2 => exact HC0.out); rintro e w10 ⟨rfl, hb⟩; refine ⟨_, rfl, ?_⟩; have n0_ := Aside0.mk (below_step (by repeat (first | (with_reducible first | exact HB.out | apply below_alloc | apply pw_below_drewN | apply below_drew1) | exact HB.out)) hb); clear HB; have HB := n0_; clear n0_; (try clear hb); (try clear hb2); (try clear hk); (try clear hi)) | ((with_reducible refine gate_callee (f := 38) rfl ?_); refine goesL_ (some 40) rfl rfl Try.func38 (by kernel_rfl) rfl #[.int .i64 t494] rfl (by (try simp only [List.map_toArray, List.map_cons, List.map_nil]); first | done | rfl | (simp only [List.length_drop, List.length_take]; rfl)) ?_; (with_reducible refine (crc15_Bits.calls k t494 t498 t499 _ A8.out).mono ?_); rintro e w11 ⟨v500, rfl, ho0, hb⟩; refine ⟨_, rfl, ?_⟩; have n0_ := Aside0.mk (Kd.R_lower ho0 (below_size (by repeat (first | (with_reducible first | exact HB.out | apply below_alloc | apply pw_below_drewN | apply below_drew1) | exact HB.out)))); have n1_ := Aside0.mk (below_step (by repeat (first | (with_reducible first | exact HB.out | apply below_alloc | apply pw_below_drewN | apply below_drew1) | exact HB.out)) hb); clear HB; have HO501 := n0_; have HB := n1_; clear n0_ n1_; (try clear hb); (try clear hb2); (try clear hk); (try clear hi); (try clear ho0)))
      (try simp only [Act.put, List.setIfInBounds_toArray, List.set_cons_zero, List.set_cons_succ])
      go_cut [49] (fun v49 wc => ∃ (kq : Nat) (x49_8 : Bool), v49 = .bool x49_8 ∧ Aside0 (magnetolaw02_Crc15Right.j0 kq l0 a1 t494 t498 x49_8 = some r) ∧ Aside0 (kq ≤ k) ∧ Aside0 (Kd.R (Kd.int .i64) 3 wc w.heap.size (fun _ => True) v500 t498) ∧ Aside0 (Below w.heap.size w wc))
      case first =>
        have H := HC9.out
        clear HC9
        by_cases c12 : t499 = 0
        · rw [if_pos c12] at H
          have c12b0 : (t499 == 0) = true := beq_iff_eq.mpr c12
          have c12b1 : (t499 != 0) = false := bne_eq_false_iff_eq.mpr c12
          clear c12
          (first | rw [c12b0] | (simp only [i64_w, i32_w]; rw [c12b0]) | skip)
          have H' := Aside0.mk H
          clear H
          obtain ⟨Ao13, co13, eo13⟩ := Kd.R_slice HO501.out
          subst eo13
          go_wp2
          go_meet
          case rel => exact ⟨_, (((t498.length : Int) != 15)), (by first | rfl | (simp; done) | (simp [*]; done)), H', ⟨by first | omega | exact Nat.le_refl _⟩, ⟨by (with_reducible repeat (first | apply Kd.R_alloc | apply Kd.R_drewN | apply Kd.R_drew)); exact HO501.out⟩, ⟨by repeat (first | (with_reducible first | exact HB.out | apply below_alloc | apply pw_below_drewN | apply below_drew1) | exact HB.out)⟩⟩
        · rw [if_neg c12] at H
          exact absurd H (by simp)
      case rest =>
        clear HC9
        try clear c1
        try clear p2
        try clear c3
        try clear c3b0
        try clear c3b1
        try clear c7
        try clear c7b0
        try clear c7b1
        try clear c12
        try clear c12b0
        try clear c12b1
        obtain ⟨kq, x49_8, rfl, HA, HJ8, HO_7, HB⟩ := hcut
        cases kq with
        | zero => exact absurd HA.out (by simp [magnetolaw02_Crc15Right.j0])
        | succ kj8 =>
          have H := HA.out
          clear HA
          simp only [magnetolaw02_Crc15Right.j0] at H
          by_cases c14 : x49_8 = true
          · subst c14
            have H1 : (none) = some r := by rw [if_pos rfl] at H; exact H
            clear H
            have H := H1
            clear H1
            exact absurd H (by simp)
          · replace c14 := Bool.eq_false_iff.mpr c14
            subst c14
            have H1 : ((some (([] : List Int) : List Int)).bind fun y502 => (if y502.length + l0.length < 17592186044416 then ((some (y502 ++ l0 : List Int)).bind fun y505 => (if y505.length + t498.length < 17592186044416 then ((some (y505 ++ t498 : List Int)).bind fun y508 => ((crc15_Sum.f y508).bind fun bt511 => ((crc15_Bits.f kj8 (Int.tmod (wrap64 ((Int.tmod a1 32768) + 32768)) 32768)).bind fun bt513 => (if bt511.2 = 0 then (if bt511.1 = 0 then ((crc15_Right.f kj8 y508).bind fun t517 => (if t517 = true then (magnetolaw02_Crc15Right.j1 kj8 l0 (Int.tmod (wrap64 ((Int.tmod a1 32768) + 32768)) 32768) t494 bt513.1 (bt513.2 != 0)) else (none))) else (none)) else (none))))) else (none))) else (none))) = some r := by rw [if_neg (show ¬ (false = true) by decide)] at H; exact H
            clear H
            have H := H1
            clear H1
            obtain ⟨y502, hy502⟩ : ∃ y_ : List Int, y_ = (([] : List Int)) := ⟨_, rfl⟩
            replace H : (if y502.length + l0.length < 17592186044416 then ((some (y502 ++ l0 : List Int)).bind fun y505 => (if y505.length + t498.length < 17592186044416 then ((some (y505 ++ t498 : List Int)).bind fun y508 => ((crc15_Sum.f y508).bind fun bt511 => ((crc15_Bits.f kj8 (Int.tmod (wrap64 ((Int.tmod a1 32768) + 32768)) 32768)).bind fun bt513 => (if bt511.2 = 0 then (if bt511.1 = 0 then ((crc15_Right.f kj8 y508).bind fun t517 => (if t517 = true then (magnetolaw02_Crc15Right.j1 kj8 l0 (Int.tmod (wrap64 ((Int.tmod a1 32768) + 32768)) 32768) t494 bt513.1 (bt513.2 != 0)) else (none))) else (none)) else (none))))) else (none))) else (none)) = some r := by first | (rw [hy502]; with_reducible exact H) | (have H2_ := (Option.bind_some _ _).symm.trans H; rw [hy502]; with_reducible exact H2_) | (have H2_ := (Option.bind_some _ _).symm.trans H; with_reducible exact H2_) | with_reducible exact H | (rw [hy502]; exact H) | exact H
            have Ny502 := Aside0.mk hy502
            clear hy502
            by_cases c15 : y502.length + l0.length < 17592186044416
            · rw [if_pos c15] at H
              have LMc15 := Aside0.mk c15
              clear c15
              obtain ⟨y505, hy505⟩ : ∃ y_ : List Int, y_ = (y502 ++ l0) := ⟨_, rfl⟩
              replace H : (if y505.length + t498.length < 17592186044416 then ((some (y505 ++ t498 : List Int)).bind fun y508 => ((crc15_Sum.f y508).bind fun bt511 => ((crc15_Bits.f kj8 (Int.tmod (wrap64 ((Int.tmod a1 32768) + 32768)) 32768)).bind fun bt513 => (if bt511.2 = 0 then (if bt511.1 = 0 then ((crc15_Right.f kj8 y508).bind fun t517 => (if t517 = true then (magnetolaw02_Crc15Right.j1 kj8 l0 (Int.tmod (wrap64 ((Int.tmod a1 32768) + 32768)) 32768) t494 bt513.1 (bt513.2 != 0)) else (none))) else (none)) else (none))))) else (none)) = some r := by first | (rw [hy505]; with_reducible exact H) | (have H2_ := (Option.bind_some _ _).symm.trans H; rw [hy505]; with_reducible exact H2_) | (have H2_ := (Option.bind_some _ _).symm.trans H; with_reducible exact H2_) | with_reducible exact H | (rw [hy505]; exact H) | exact H
              have Ny505 := Aside0.mk hy505
              clear hy505
              by_cases c16 : y505.length + t498.length < 17592186044416
              · rw [if_pos c16] at H
                have LMc16 := Aside0.mk c16
                clear c16
                obtain ⟨y508, hy508⟩ : ∃ y_ : List Int, y_ = (y505 ++ t498) := ⟨_, rfl⟩
                replace H : ((crc15_Sum.f y508).bind fun bt511 => ((crc15_Bits.f kj8 (Int.tmod (wrap64 ((Int.tmod a1 32768) + 32768)) 32768)).bind fun bt513 => (if bt511.2 = 0 then (if bt511.1 = 0 then ((crc15_Right.f kj8 y508).bind fun t517 => (if t517 = true then (magnetolaw02_Crc15Right.j1 kj8 l0 (Int.tmod (wrap64 ((Int.tmod a1 32768) + 32768)) 32768) t494 bt513.1 (bt513.2 != 0)) else (none))) else (none)) else (none)))) = some r := by first | (rw [hy508]; with_reducible exact H) | (have H2_ := (Option.bind_some _ _).symm.trans H; rw [hy508]; with_reducible exact H2_) | (have H2_ := (Option.bind_some _ _).symm.trans H; with_reducible exact H2_) | with_reducible exact H | (rw [hy508]; exact H) | exact H
                have Ny508 := Aside0.mk hy508
                clear hy508
                replace H := Option.bind_eq_some_iff.mp H
                obtain ⟨⟨t511, t512⟩, A170, H⟩ := H
                replace H : ((crc15_Bits.f kj8 (Int.tmod (wrap64 ((Int.tmod a1 32768) + 32768)) 32768)).bind fun bt513 => (if t512 = 0 then (if t511 = 0 then ((crc15_Right.f kj8 y508).bind fun t517 => (if t517 = true then (magnetolaw02_Crc15Right.j1 kj8 l0 (Int.tmod (wrap64 ((Int.tmod a1 32768) + 32768)) 32768) t494 bt513.1 (bt513.2 != 0)) else (none))) else (none)) else (none))) = some r := H
                have A17 := Aside0.mk A170
                clear A170
                replace H := Option.bind_eq_some_iff.mp H
                obtain ⟨⟨t513, t514⟩, A180, H⟩ := H
                replace H : (if t512 = 0 then (if t511 = 0 then ((crc15_Right.f kj8 y508).bind fun t517 => (if t517 = true then (magnetolaw02_Crc15Right.j1 kj8 l0 (Int.tmod (wrap64 ((Int.tmod a1 32768) + 32768)) 32768) t494 t513 (t514 != 0)) else (none))) else (none)) else (none)) = some r := H
                have A18 := Aside0.mk A180
                clear A180
                have HC19 := Aside0.mk H
                clear H
                go_upto_region 13 with (first | ((with_reducible refine gate_dst (N := 50) rfl ?_); (try (refine gate_guard (by rfl) ?_; dsimp only)); refine Kd.R_lit (Kd.int .i64) _ 3 ?hg (N := 50) ?hd (xs := ([] : List Int)) (inner := []) (ok := fun _ => True) (okp := fun _ => True) ?hr ?hp (fun _ hk => hk) trivial (Below.refl _ _) (Nat.le_refl _) (by simp) ?_; (case hd => rfl); (case hg => rfl); (case hr => first | (go_simp; done) | (go_simp; rfl)); (case hp => exact (Reps.none _ _)); intro v503 w20 ho21 hb hg_ hnew_; clear hg_ hnew_; (first | rw [← Ny502.out] at ho21 | (simp only [Int.reduceToNat] at ho21; rw [← Ny502.out] at ho21)); have n0_ := Aside0.mk (Kd.R_elder' (by (with_reducible repeat (first | apply Kd.R_alloc | apply Kd.R_drewN | apply Kd.R_drew)); exact HO_7.out) (Kd.R_base ho21) hb); have n1_ := Aside0.mk (Kd.R_lower (Kd.R_new' ho21 (Kd.R_lt (by (with_reducible repeat (first | apply Kd.R_alloc | apply Kd.R_drewN | apply Kd.R_drew)); exact HO_7.out))) (below_size (by repeat (first | (with_reducible first | exact HB.out | apply below_alloc | apply pw_below_drewN | apply below_drew1) | exact HB.out)))); have n2_ := Aside0.mk (below_step (by repeat (first | (with_reducible first | exact HB.out | apply below_alloc | apply pw_below_drewN | apply below_drew1) | exact HB.out)) hb); clear HO_7; clear HB; have HO_7 := n0_; have HO504 := n1_; have HB := n2_; clear n0_ n1_ n2_; clear hb ho21) | ((with_reducible refine gate_builtin (b := .append) (xs := #[.tmp 50, .tmp 51]) rfl ?_); (try (refine gate_guard (by rfl) ?_; dsimp only)); at_builtin; refine Kd.R_append_rows (Kd.int .i64) (w0 := w) w.heap.size rfl (.tmp 50) (.tmp 51) 22 3 (.int .i64 0) 8 rfl Try.underlying22 info3 rfl (by decide) (by omega) v503 y502 l0 _ _ _ (fun k_ => some k_ ≠ (v500 : Value).ownBlock) (fun _ => False) rfl rfl ?aO ?aR (fun _ _ h => h) (fun _ h => h.elim) ?aF ?aB ?aS ?aL ?_; (case aR => repeat (first | exact (Kd.C_below HR0.out HB.out) | (with_reducible refine Kd.C_alloc ?_ _) | (with_reducible refine Kd.C_drewN ?_ _) | (with_reducible refine Kd.C_drew ?_))); (case aB => exact (by repeat (first | (with_reducible first | exact HB.out | apply below_alloc | apply pw_below_drewN | apply below_drew1) | exact HB.out))); (case aF => exact (fun k_ hk => Kd.fresh' (Kd.R_lt (by (with_reducible repeat (first | apply Kd.R_alloc | apply Kd.R_drewN | apply Kd.R_drew)); exact HO_7.out)) k_ hk)); (case aO => exact (by (with_reducible repeat (first | apply Kd.R_alloc | apply Kd.R_drewN | apply Kd.R_drew)); exact Kd.R_mono HO504.out (fun _ hk => hk.2))); (case aS => exact (below_size (by repeat (first | (with_reducible first | exact HB.out | apply below_alloc | apply pw_below_drewN | apply below_drew1) | exact HB.out)))); (case aL => have := LMc15.out; omega); intro v506 w22 ho hb hg hat; rw [← Ny505.out] at ho; have n0_ := Aside0.mk (Kd.R_after (ok := (fun _ => True)) (by (with_reducible repeat (first | apply Kd.R_alloc | apply Kd.R_drewN | apply Kd.R_drew)); exact HO_7.out) hg hat); have n1_ := Aside0.mk (hb); have n2_ := Aside0.mk (ho); clear HO_7; clear HB; clear HO504; have HO_7 := n0_; have HB := n1_; have HO507 := n2_; clear n0_ n1_ n2_; clear ho hb hg hat; obtain ⟨Ao24, co24, eo24⟩ := Kd.R_slice HO_7.out; subst eo24) | ((with_reducible refine gate_builtin (b := .append) (xs := #[.tmp 52, .tmp 53]) rfl ?_); (try (refine gate_guard (by rfl) ?_; dsimp only)); at_builtin; refine Kd.R_append_rows (Kd.int .i64) (w0 := w) w.heap.size rfl (.tmp 52) (.tmp 53) 22 3 (.int .i64 0) 8 rfl Try.underlying22 info3 rfl (by decide) (by omega) v506 y505 t498 _ _ _ (fun k_ => some k_ ≠ (.slice Ao24 t498.length co24 : Value).ownBlock) (fun _ => False) rfl rfl ?aO ?aR (fun _ _ h => h) (fun _ h => h.elim) ?aF ?aB ?aS ?aL ?_; (case aR => repeat (first | exact (Kd.R_reads' HO_7.out).2.2 | (with_reducible refine Kd.C_alloc ?_ _) | (with_reducible refine Kd.C_drewN ?_ _) | (with_reducible refine Kd.C_drew ?_))); (case aB => exact (by repeat (first | (with_reducible first | exact HB.out | apply below_alloc | apply pw_below_drewN | apply below_drew1) | exact HB.out))); (case aF => exact (fun k_ hk => Kd.fresh' (Kd.R_lt (by (with_reducible repeat (first | apply Kd.R_alloc | apply Kd.R_drewN | apply Kd.R_drew)); exact HO_7.out)) k_ hk)); (case aO => exact (by (with_reducible repeat (first | apply Kd.R_alloc | apply Kd.R_drewN | apply Kd.R_drew)); exact HO507.out)); (case aS => exact (below_size (by repeat (first | (with_reducible first | exact HB.out | apply below_alloc | apply pw_below_drewN | apply below_drew1) | exact HB.out)))); (case aL => have := LMc16.out; omega); intro v509 w23 ho hb hg hat; rw [← Ny508.out] at ho; have n0_ := Aside0.mk (Kd.R_after (ok := (fun _ => True)) (by (with_reducible repeat (first | apply Kd.R_alloc | apply Kd.R_drewN | apply Kd.R_drew)); exact HO_7.out) hg hat); have n1_ := Aside0.mk (hb); have n2_ := Aside0.mk (ho); clear HO_7; clear HB; clear HO507; have HO_7 := n0_; have HB := n1_; have HO510 := n2_; clear n0_ n1_ n2_; clear ho hb hg hat; obtain ⟨Ao25, co25, eo25⟩ := Kd.R_slice HO510.out; subst eo25) | ((with_reducible refine gate_callee (f := 36) rfl ?_); refine goesL_ (some 57) rfl rfl Try.func36 (by kernel_rfl) rfl #[.slice Ao25 y508.length co25] rfl (by (try simp only [List.map_toArray, List.map_cons, List.map_nil]); first | done | rfl | (simp only [List.length_drop, List.length_take]; rfl)) ?_; (with_reducible refine (crc15_Sum.calls _ _ y508 t511 t512 _ ?side1 ?side2 A17.out).mono ?_); (case side1 => repeat (first | exact (Kd.R_reads' HO510.out).2.2 | (with_reducible refine Kd.C_alloc ?_ _) | (with_reducible refine Kd.C_drewN ?_ _) | (with_reducible refine Kd.C_drew ?_))); (case side2 => exact (Kd.R_reads' HO510.out).2.1); rintro e w26 ⟨rfl, hb⟩; refine ⟨_, rfl, ?_⟩; have n0_ := Aside0.mk (Kd.R_below (by (with_reducible repeat (first | apply Kd.R_alloc | apply Kd.R_drewN | apply Kd.R_drew)); exact HO_7.out) hb); have n1_ := Aside0.mk (Kd.R_below (by (with_reducible repeat (first | apply Kd.R_alloc | apply Kd.R_drewN | apply Kd.R_drew)); exact HO510.out) hb); have n2_ := Aside0.mk (below_step (by repeat (first | (with_reducible first | exact HB.out | apply below_alloc | apply pw_below_drewN | apply below_drew1) | exact HB.out)) hb); clear HO_7; clear HO510; clear HB; have HO_7 := n0_; have HO510 := n1_; have HB := n2_; clear n0_ n1_ n2_; (try clear hb); (try clear hb2); (try clear hk); (try clear hi)) | ((with_reducible refine gate_callee (f := 38) rfl ?_); refine goesL_ (some 66) rfl rfl Try.func38 (by kernel_rfl) rfl #[.int .i64 (Int.tmod (wrap64 ((Int.tmod a1 32768) + 32768)) 32768)] rfl (by (try simp only [List.map_toArray, List.map_cons, List.map_nil]); first | done | rfl | (simp only [List.length_drop, List.length_take]; rfl)) ?_; (with_reducible refine (crc15_Bits.calls kj8 (Int.tmod (wrap64 ((Int.tmod a1 32768) + 32768)) 32768) t513 t514 _ A18.out).mono ?_); rintro e w27 ⟨v515, rfl, ho0, hb⟩; refine ⟨_, rfl, ?_⟩; have n0_ := Aside0.mk (Kd.R_elder' (by (with_reducible repeat (first | apply Kd.R_alloc | apply Kd.R_drewN | apply Kd.R_drew)); exact HO_7.out) (Kd.R_base ho0) hb); have n1_ := Aside0.mk (Kd.R_elder' (by (with_reducible repeat (first | apply Kd.R_alloc | apply Kd.R_drewN | apply Kd.R_drew)); exact HO510.out) (Kd.R_base ho0) hb); have n2_ := Aside0.mk (Kd.R_lower (Kd.R_new' (Kd.R_new' ho0 (Kd.R_lt (by (with_reducible repeat (first | apply Kd.R_alloc | apply Kd.R_drewN | apply Kd.R_drew)); exact HO_7.out))) (Kd.R_lt (by (with_reducible repeat (first | apply Kd.R_alloc | apply Kd.R_drewN | apply Kd.R_drew)); exact HO510.out))) (below_size (by repeat (first | (with_reducible first | exact HB.out | apply below_alloc | apply pw_below_drewN | apply below_drew1) | exact HB.out)))); have n3_ := Aside0.mk (below_step (by repeat (first | (with_reducible first | exact HB.out | apply below_alloc | apply pw_below_drewN | apply below_drew1) | exact HB.out)) hb); clear HO_7; clear HO510; clear HB; have HO_7 := n0_; have HO510 := n1_; have HO516 := n2_; have HB := n3_; clear n0_ n1_ n2_ n3_; (try clear hb); (try clear hb2); (try clear hk); (try clear hi); (try clear ho0)))
                (try simp only [Act.put, List.setIfInBounds_toArray, List.set_cons_zero, List.set_cons_succ])
                go_cut [83] (fun v83 wc => ∃ (kq : Nat) (x83_18 : Bool), v83 = .bool x83_18 ∧ Aside0 (magnetolaw02_Crc15Right.j1 kq l0 (Int.tmod (wrap64 ((Int.tmod a1 32768) + 32768)) 32768) t494 t513 x83_18 = some r) ∧ Aside0 (kq ≤ kj8) ∧ Aside0 (Kd.R (Kd.int .i64) 3 wc w.heap.size (fun _ => True) v515 t513) ∧ Aside0 (Below w.heap.size w wc))
                case first =>
                  have H := HC19.out
                  clear HC19
                  by_cases c28 : t512 = 0
                  · rw [if_pos c28] at H
                    have c28b0 : (t512 == 0) = true := beq_iff_eq.mpr c28
                    have c28b1 : (t512 != 0) = false := bne_eq_false_iff_eq.mpr c28
                    clear c28
                    (first | rw [c28b0] | (simp only [i64_w, i32_w]; rw [c28b0]) | skip)
                    by_cases c29 : t511 = 0
                    · rw [if_pos c29] at H
                      have c29b0 : (t511 == 0) = true := beq_iff_eq.mpr c29
                      have c29b1 : (t511 != 0) = false := bne_eq_false_iff_eq.mpr c29
                      clear c29
                      replace H := Option.bind_eq_some_iff.mp H
                      obtain ⟨t517, A300, H⟩ := H
                      replace H : (if t517 = true then (magnetolaw02_Crc15Right.j1 kj8 l0 (Int.tmod (wrap64 ((Int.tmod a1 32768) + 32768)) 32768) t494 t513 (t514 != 0)) else (none)) = some r := H
                      have A30 := Aside0.mk A300
                      clear A300
                      by_cases c31 : t517 = true
                      · subst c31
                        have H1 : (magnetolaw02_Crc15Right.j1 kj8 l0 (Int.tmod (wrap64 ((Int.tmod a1 32768) + 32768)) 32768) t494 t513 (t514 != 0)) = some r := by rw [if_pos rfl] at H; exact H
                        clear H
                        have H := H1
                        clear H1
                        have H' := Aside0.mk H
                        clear H
                        go_wp2_with (first | (go_at_call 43; (with_reducible refine (crc15_Right.calls kj8 _ _ y508 true _ ?side1 ?side2 A30.out).mono ?_); (case side1 => repeat (first | exact (Kd.R_reads' HO510.out).2.2 | (with_reducible refine Kd.C_alloc ?_ _) | (with_reducible refine Kd.C_drewN ?_ _) | (with_reducible refine Kd.C_drew ?_))); (case side2 => exact (Kd.R_reads' HO510.out).2.1); rintro e w32 ⟨rfl, hb⟩; have n0_ := Aside0.mk (Kd.R_below (by (with_reducible repeat (first | apply Kd.R_alloc | apply Kd.R_drewN | apply Kd.R_drew)); exact HO_7.out) hb); have n1_ := Aside0.mk (Kd.R_below (by (with_reducible repeat (first | apply Kd.R_alloc | apply Kd.R_drewN | apply Kd.R_drew)); exact HO510.out) hb); have n2_ := Aside0.mk (Kd.R_below (by (with_reducible repeat (first | apply Kd.R_alloc | apply Kd.R_drewN | apply Kd.R_drew)); exact HO516.out) hb); have n3_ := Aside0.mk (below_step (by repeat (first | (with_reducible first | exact HB.out | apply below_alloc | apply pw_below_drewN | apply below_drew1) | exact HB.out)) hb); clear HO_7; clear HO510; clear HO516; clear HB; have HO_7 := n0_; have HO510 := n1_; have HO516 := n2_; have HB := n3_; clear n0_ n1_ n2_ n3_; (try clear hb); (try clear hb2); (try clear hk); (try clear hi)))
                        go_meet
                        case rel => exact ⟨_, ((t514 != 0)), (by first | rfl | (simp; done) | (simp [*]; done)), H', ⟨by have := HJ8.out; first | omega | exact Nat.le_refl _⟩, ⟨by (with_reducible repeat (first | apply Kd.R_alloc | apply Kd.R_drewN | apply Kd.R_drew)); exact Kd.R_mono HO516.out (fun _ hk => trivial)⟩, ⟨by repeat (first | (with_reducible first | exact HB.out | apply below_alloc | apply pw_below_drewN | apply below_drew1) | exact HB.out)⟩⟩
                      · replace c31 := Bool.eq_false_iff.mpr c31
                        subst c31
                        have H1 : (none) = some r := by rw [if_neg (show ¬ (false = true) by decide)] at H; exact H
                        clear H
                        have H := H1
                        clear H1
                        exact absurd H (by simp)
                    · rw [if_neg c29] at H
                      exact absurd H (by simp)
                  · rw [if_neg c28] at H
                    exact absurd H (by simp)
                case rest =>
                  clear HC19
                  try clear c1
                  try clear c2
                  try clear p2
                  try clear c3
                  try clear c3b0
                  try clear c3b1
                  try clear p6
                  try clear c7
                  try clear c7b0
                  try clear c7b1
                  try clear c12
                  try clear c12b0
                  try clear c12b1
                  try clear c14
                  try clear c15
                  try clear c16
                  try clear c28
                  try clear c28b0
                  try clear c28b1
                  try clear c29
                  try clear c29b0
                  try clear c29b1
                  try clear c31
                  try clear p2
                  obtain ⟨kq, x83_18, rfl, HA, HJ18, HO_12, HB⟩ := hcut
                  cases kq with
                  | zero => exact absurd HA.out (by simp [magnetolaw02_Crc15Right.j1])
                  | succ kj18 =>
                    have H := HA.out
                    clear HA
                    simp only [magnetolaw02_Crc15Right.j1] at H
                    by_cases c33 : x83_18 = true
                    · subst c33
                      have H1 : (none) = some r := by rw [if_pos rfl] at H; exact H
                      clear H
                      have H := H1
                      clear H1
                      exact absurd H (by simp)
                    · replace c33 := Bool.eq_false_iff.mpr c33
                      subst c33
                      have H1 : ((some (([] : List Int) : List Int)).bind fun y518 => (if y518.length + l0.length < 17592186044416 then ((some (y518 ++ l0 : List Int)).bind fun y521 => (if y521.length + t513.length < 17592186044416 then ((some (y521 ++ t513 : List Int)).bind fun y524 => ((crc15_Sum.f y524).bind fun bt527 => ((crc15_Right.f kj18 y524).bind fun t529 => (if (t529 == ((Int.tmod (wrap64 ((Int.tmod a1 32768) + 32768)) 32768) == t494)) = true then (if bt527.2 = 0 then (if ((bt527.1 == 0) == ((Int.tmod (wrap64 ((Int.tmod a1 32768) + 32768)) 32768) == t494)) = true then ((magnetolaw02_awake.f).bind fun t530 => (some t530)) else (none)) else (none)) else (none))))) else (none))) else (none))) = some r := by rw [if_neg (show ¬ (false = true) by decide)] at H; exact H
                      clear H
                      have H := H1
                      clear H1
                      obtain ⟨y518, hy518⟩ : ∃ y_ : List Int, y_ = (([] : List Int)) := ⟨_, rfl⟩
                      replace H : (if y518.length + l0.length < 17592186044416 then ((some (y518 ++ l0 : List Int)).bind fun y521 => (if y521.length + t513.length < 17592186044416 then ((some (y521 ++ t513 : List Int)).bind fun y524 => ((crc15_Sum.f y524).bind fun bt527 => ((crc15_Right.f kj18 y524).bind fun t529 => (if (t529 == ((Int.tmod (wrap64 ((Int.tmod a1 32768) + 32768)) 32768) == t494)) = true then (if bt527.2 = 0 then (if ((bt527.1 == 0) == ((Int.tmod (wrap64 ((Int.tmod a1 32768) + 32768)) 32768) == t494)) = true then ((magnetolaw02_awake.f).bind fun t530 => (some t530)) else (none)) else (none)) else (none))))) else (none))) else (none)) = some r := by first | (rw [hy518]; with_reducible exact H) | (have H2_ := (Option.bind_some _ _).symm.trans H; rw [hy518]; with_reducible exact H2_) | (have H2_ := (Option.bind_some _ _).symm.trans H; with_reducible exact H2_) | with_reducible exact H | (rw [hy518]; exact H) | exact H
                      have Ny518 := Aside0.mk hy518
                      clear hy518
                      by_cases c34 : y518.length + l0.length < 17592186044416
                      · rw [if_pos c34] at H
                        have LMc34 := Aside0.mk c34
                        clear c34
                        obtain ⟨y521, hy521⟩ : ∃ y_ : List Int, y_ = (y518 ++ l0) := ⟨_, rfl⟩
                        replace H : (if y521.length + t513.length < 17592186044416 then ((some (y521 ++ t513 : List Int)).bind fun y524 => ((crc15_Sum.f y524).bind fun bt527 => ((crc15_Right.f kj18 y524).bind fun t529 => (if (t529 == ((Int.tmod (wrap64 ((Int.tmod a1 32768) + 32768)) 32768) == t494)) = true then (if bt527.2 = 0 then (if ((bt527.1 == 0) == ((Int.tmod (wrap64 ((Int.tmod a1 32768) + 32768)) 32768) == t494)) = true then ((magnetolaw02_awake.f).bind fun t530 => (some t530)) else (none)) else (none)) else (none))))) else (none)) = some r := by first | (rw [hy521]; with_reducible exact H) | (have H2_ := (Option.bind_some _ _).symm.trans H; rw [hy521]; with_reducible exact H2_) | (have H2_ := (Option.bind_some _ _).symm.trans H; with_reducible exact H2_) | with_reducible exact H | (rw [hy521]; exact H) | exact H
                        have Ny521 := Aside0.mk hy521
                        clear hy521
                        by_cases c35 : y521.length + t513.length < 17592186044416
                        · rw [if_pos c35] at H
                          have LMc35 := Aside0.mk c35
                          clear c35
                          obtain ⟨y524, hy524⟩ : ∃ y_ : List Int, y_ = (y521 ++ t513) := ⟨_, rfl⟩
                          replace H : ((crc15_Sum.f y524).bind fun bt527 => ((crc15_Right.f kj18 y524).bind fun t529 => (if (t529 == ((Int.tmod (wrap64 ((Int.tmod a1 32768) + 32768)) 32768) == t494)) = true then (if bt527.2 = 0 then (if ((bt527.1 == 0) == ((Int.tmod (wrap64 ((Int.tmod a1 32768) + 32768)) 32768) == t494)) = true then ((magnetolaw02_awake.f).bind fun t530 => (some t530)) else (none)) else (none)) else (none)))) = some r := by first | (rw [hy524]; with_reducible exact H) | (have H2_ := (Option.bind_some _ _).symm.trans H; rw [hy524]; with_reducible exact H2_) | (have H2_ := (Option.bind_some _ _).symm.trans H; with_reducible exact H2_) | with_reducible exact H | (rw [hy524]; exact H) | exact H
                          have Ny524 := Aside0.mk hy524
                          clear hy524
                          replace H := Option.bind_eq_some_iff.mp H
                          obtain ⟨⟨t527, t528⟩, A360, H⟩ := H
                          replace H : ((crc15_Right.f kj18 y524).bind fun t529 => (if (t529 == ((Int.tmod (wrap64 ((Int.tmod a1 32768) + 32768)) 32768) == t494)) = true then (if t528 = 0 then (if ((t527 == 0) == ((Int.tmod (wrap64 ((Int.tmod a1 32768) + 32768)) 32768) == t494)) = true then ((magnetolaw02_awake.f).bind fun t530 => (some t530)) else (none)) else (none)) else (none))) = some r := H
                          have A36 := Aside0.mk A360
                          clear A360
                          replace H := Option.bind_eq_some_iff.mp H
                          obtain ⟨t529, A370, H⟩ := H
                          replace H : (if (t529 == ((Int.tmod (wrap64 ((Int.tmod a1 32768) + 32768)) 32768) == t494)) = true then (if t528 = 0 then (if ((t527 == 0) == ((Int.tmod (wrap64 ((Int.tmod a1 32768) + 32768)) 32768) == t494)) = true then ((magnetolaw02_awake.f).bind fun t530 => (some t530)) else (none)) else (none)) else (none)) = some r := H
                          have A37 := Aside0.mk A370
                          clear A370
                          by_cases c38 : (t529 == ((Int.tmod (wrap64 ((Int.tmod a1 32768) + 32768)) 32768) == t494)) = true
                          · rw [if_pos c38] at H
                            have c38b0 : (t529 == ((Int.tmod (wrap64 ((Int.tmod a1 32768) + 32768)) 32768) == t494)) = true := c38
                            (try (have c38b1 : decide (t529 = ((Int.tmod (wrap64 ((Int.tmod a1 32768) + 32768)) 32768) == t494)) = true := by simpa using c38))
                            (try (have c38b2 : (t529 == ((Int.tmod (wrap64 ((Int.tmod a1 32768) + 32768)) 32768) == t494)) = true := by simpa using c38))
                            clear c38
                            by_cases c39 : t528 = 0
                            · rw [if_pos c39] at H
                              have c39b0 : (t528 == 0) = true := beq_iff_eq.mpr c39
                              have c39b1 : (t528 != 0) = false := bne_eq_false_iff_eq.mpr c39
                              clear c39
                              by_cases c40 : ((t527 == 0) == ((Int.tmod (wrap64 ((Int.tmod a1 32768) + 32768)) 32768) == t494)) = true
                              · rw [if_pos c40] at H
                                have c40b0 : ((t527 == 0) == ((Int.tmod (wrap64 ((Int.tmod a1 32768) + 32768)) 32768) == t494)) = true := c40
                                (try (have c40b1 : decide ((t527 == 0) = ((Int.tmod (wrap64 ((Int.tmod a1 32768) + 32768)) 32768) == t494)) = true := by simpa using c40))
                                (try (have c40b2 : ((t527 == 0) == ((Int.tmod (wrap64 ((Int.tmod a1 32768) + 32768)) 32768) == t494)) = true := by simpa using c40))
                                clear c40
                                replace H := Option.bind_eq_some_iff.mp H
                                obtain ⟨t530, A410, H⟩ := H
                                replace H : (some t530) = some r := H
                                have A41 := Aside0.mk A410
                                clear A410
                                obtain rfl := Option.some.inj H
                                go_wp2_with (first | ((with_reducible refine gate_dst (N := 84) rfl ?_); (try (refine gate_guard (by rfl) ?_; dsimp only)); refine Kd.R_lit (Kd.int .i64) _ 3 ?hg (N := 84) ?hd (xs := ([] : List Int)) (inner := []) (ok := fun _ => True) (okp := fun _ => True) ?hr ?hp (fun _ hk => hk) trivial (Below.refl _ _) (Nat.le_refl _) (by simp) ?_; (case hd => rfl); (case hg => rfl); (case hr => first | (go_simp; done) | (go_simp; rfl)); (case hp => exact (Reps.none _ _)); intro v519 w42 ho43 hb hg_ hnew_; clear hg_ hnew_; (first | rw [← Ny518.out] at ho43 | (simp only [Int.reduceToNat] at ho43; rw [← Ny518.out] at ho43)); have n0_ := Aside0.mk (Kd.R_elder' (by (with_reducible repeat (first | apply Kd.R_alloc | apply Kd.R_drewN | apply Kd.R_drew)); exact HO_12.out) (Kd.R_base ho43) hb); have n1_ := Aside0.mk (Kd.R_lower (Kd.R_new' ho43 (Kd.R_lt (by (with_reducible repeat (first | apply Kd.R_alloc | apply Kd.R_drewN | apply Kd.R_drew)); exact HO_12.out))) (below_size (by repeat (first | (with_reducible first | exact HB.out | apply below_alloc | apply pw_below_drewN | apply below_drew1) | exact HB.out)))); have n2_ := Aside0.mk (below_step (by repeat (first | (with_reducible first | exact HB.out | apply below_alloc | apply pw_below_drewN | apply below_drew1) | exact HB.out)) hb); clear HO_12; clear HB; have HO_12 := n0_; have HO520 := n1_; have HB := n2_; clear n0_ n1_ n2_; clear hb ho43) | ((with_reducible refine gate_builtin (b := .append) (xs := #[.tmp 84, .tmp 85]) rfl ?_); (try (refine gate_guard (by rfl) ?_; dsimp only)); at_builtin; refine Kd.R_append_rows (Kd.int .i64) (w0 := w) w.heap.size rfl (.tmp 84) (.tmp 85) 22 3 (.int .i64 0) 8 rfl Try.underlying22 info3 rfl (by decide) (by omega) v519 y518 l0 _ _ _ (fun k_ => some k_ ≠ (v515 : Value).ownBlock) (fun _ => False) rfl rfl ?aO ?aR (fun _ _ h => h) (fun _ h => h.elim) ?aF ?aB ?aS ?aL ?_; (case aR => repeat (first | exact (Kd.C_below HR0.out HB.out) | (with_reducible refine Kd.C_alloc ?_ _) | (with_reducible refine Kd.C_drewN ?_ _) | (with_reducible refine Kd.C_drew ?_))); (case aB => exact (by repeat (first | (with_reducible first | exact HB.out | apply below_alloc | apply pw_below_drewN | apply below_drew1) | exact HB.out))); (case aF => exact (fun k_ hk => Kd.fresh' (Kd.R_lt (by (with_reducible repeat (first | apply Kd.R_alloc | apply Kd.R_drewN | apply Kd.R_drew)); exact HO_12.out)) k_ hk)); (case aO => exact (by (with_reducible repeat (first | apply Kd.R_alloc | apply Kd.R_drewN | apply Kd.R_drew)); exact Kd.R_mono HO520.out (fun _ hk => hk.2))); (case aS => exact (below_size (by repeat (first | (with_reducible first | exact HB.out | apply below_alloc | apply pw_below_drewN | apply below_drew1) | exact HB.out)))); (case aL => have := LMc34.out; omega); intro v522 w44 ho hb hg hat; rw [← Ny521.out] at ho; have n0_ := Aside0.mk (Kd.R_after (ok := (fun _ => True)) (by (with_reducible repeat (first | apply Kd.R_alloc | apply Kd.R_drewN | apply Kd.R_drew)); exact HO_12.out) hg hat); have n1_ := Aside0.mk (hb); have n2_ := Aside0.mk (ho); clear HO_12; clear HB; clear HO520; have HO_12 := n0_; have HB := n1_; have HO523 := n2_; clear n0_ n1_ n2_; clear ho hb hg hat; obtain ⟨Ao46, co46, eo46⟩ := Kd.R_slice HO_12.out; subst eo46) | ((with_reducible refine gate_builtin (b := .append) (xs := #[.tmp 86, .tmp 87]) rfl ?_); (try (refine gate_guard (by rfl) ?_; dsimp only)); at_builtin; refine Kd.R_append_rows (Kd.int .i64) (w0 := w) w.heap.size rfl (.tmp 86) (.tmp 87) 22 3 (.int .i64 0) 8 rfl Try.underlying22 info3 rfl (by decide) (by omega) v522 y521 t513 _ _ _ (fun k_ => some k_ ≠ (.slice Ao46 t513.length co46 : Value).ownBlock) (fun _ => False) rfl rfl ?aO ?aR (fun _ _ h => h) (fun _ h => h.elim) ?aF ?aB ?aS ?aL ?_; (case aR => repeat (first | exact (Kd.R_reads' HO_12.out).2.2 | (with_reducible refine Kd.C_alloc ?_ _) | (with_reducible refine Kd.C_drewN ?_ _) | (with_reducible refine Kd.C_drew ?_))); (case aB => exact (by repeat (first | (with_reducible first | exact HB.out | apply below_alloc | apply pw_below_drewN | apply below_drew1) | exact HB.out))); (case aF => exact (fun k_ hk => Kd.fresh' (Kd.R_lt (by (with_reducible repeat (first | apply Kd.R_alloc | apply Kd.R_drewN | apply Kd.R_drew)); exact HO_12.out)) k_ hk)); (case aO => exact (by (with_reducible repeat (first | apply Kd.R_alloc | apply Kd.R_drewN | apply Kd.R_drew)); exact HO523.out)); (case aS => exact (below_size (by repeat (first | (with_reducible first | exact HB.out | apply below_alloc | apply pw_below_drewN | apply below_drew1) | exact HB.out)))); (case aL => have := LMc35.out; omega); intro v525 w45 ho hb hg hat; rw [← Ny524.out] at ho; have n0_ := Aside0.mk (Kd.R_after (ok := (fun _ => True)) (by (with_reducible repeat (first | apply Kd.R_alloc | apply Kd.R_drewN | apply Kd.R_drew)); exact HO_12.out) hg hat); have n1_ := Aside0.mk (hb); have n2_ := Aside0.mk (ho); clear HO_12; clear HB; clear HO523; have HO_12 := n0_; have HB := n1_; have HO526 := n2_; clear n0_ n1_ n2_; clear ho hb hg hat; obtain ⟨Ao47, co47, eo47⟩ := Kd.R_slice HO526.out; subst eo47) | ((with_reducible refine gate_callee (f := 36) rfl ?_); refine goesL_ (some 91) rfl rfl Try.func36 (by kernel_rfl) rfl #[.slice Ao47 y524.length co47] rfl (by (try simp only [List.map_toArray, List.map_cons, List.map_nil]); first | done | rfl | (simp only [List.length_drop, List.length_take]; rfl)) ?_; (with_reducible refine (crc15_Sum.calls _ _ y524 t527 t528 _ ?side1 ?side2 A36.out).mono ?_); (case side1 => repeat (first | exact (Kd.R_reads' HO526.out).2.2 | (with_reducible refine Kd.C_alloc ?_ _) | (with_reducible refine Kd.C_drewN ?_ _) | (with_reducible refine Kd.C_drew ?_))); (case side2 => exact (Kd.R_reads' HO526.out).2.1); rintro e w48 ⟨rfl, hb⟩; refine ⟨_, rfl, ?_⟩; have n0_ := Aside0.mk (Kd.R_below (by (with_reducible repeat (first | apply Kd.R_alloc | apply Kd.R_drewN | apply Kd.R_drew)); exact HO_12.out) hb); have n1_ := Aside0.mk (Kd.R_below (by (with_reducible repeat (first | apply Kd.R_alloc | apply Kd.R_drewN | apply Kd.R_drew)); exact HO526.out) hb); have n2_ := Aside0.mk (below_step (by repeat (first | (with_reducible first | exact HB.out | apply below_alloc | apply pw_below_drewN | apply below_drew1) | exact HB.out)) hb); clear HO_12; clear HO526; clear HB; have HO_12 := n0_; have HO526 := n1_; have HB := n2_; clear n0_ n1_ n2_; (try clear hb); (try clear hb2); (try clear hk); (try clear hi)) | ((with_reducible refine gate_callee (f := 43) rfl ?_); refine goesL_ (some 95) rfl rfl Try.func43 (by kernel_rfl) rfl #[.slice Ao47 y524.length co47] rfl (by (try simp only [List.map_toArray, List.map_cons, List.map_nil]); first | done | rfl | (simp only [List.length_drop, List.length_take]; rfl)) ?_; (with_reducible refine (crc15_Right.calls kj18 _ _ y524 t529 _ ?side1 ?side2 A37.out).mono ?_); (case side1 => repeat (first | exact (Kd.R_reads' HO526.out).2.2 | (with_reducible refine Kd.C_alloc ?_ _) | (with_reducible refine Kd.C_drewN ?_ _) | (with_reducible refine Kd.C_drew ?_))); (case side2 => exact (Kd.R_reads' HO526.out).2.1); rintro e w49 ⟨rfl, hb⟩; refine ⟨_, rfl, ?_⟩; have n0_ := Aside0.mk (Kd.R_below (by (with_reducible repeat (first | apply Kd.R_alloc | apply Kd.R_drewN | apply Kd.R_drew)); exact HO_12.out) hb); have n1_ := Aside0.mk (Kd.R_below (by (with_reducible repeat (first | apply Kd.R_alloc | apply Kd.R_drewN | apply Kd.R_drew)); exact HO526.out) hb); have n2_ := Aside0.mk (below_step (by repeat (first | (with_reducible first | exact HB.out | apply below_alloc | apply pw_below_drewN | apply below_drew1) | exact HB.out)) hb); clear HO_12; clear HO526; clear HB; have HO_12 := n0_; have HO526 := n1_; have HB := n2_; clear n0_ n1_ n2_; (try clear hb); (try clear hb2); (try clear hk); (try clear hi)) | (go_at_call 35; (with_reducible refine (magnetolaw02_awake.calls  t530 _ A41.out).mono ?_); rintro e w50 ⟨rfl, hb⟩; have n0_ := Aside0.mk (Kd.R_below (by (with_reducible repeat (first | apply Kd.R_alloc | apply Kd.R_drewN | apply Kd.R_drew)); exact HO_12.out) hb); have n1_ := Aside0.mk (Kd.R_below (by (with_reducible repeat (first | apply Kd.R_alloc | apply Kd.R_drewN | apply Kd.R_drew)); exact HO526.out) hb); have n2_ := Aside0.mk (below_step (by repeat (first | (with_reducible first | exact HB.out | apply below_alloc | apply pw_below_drewN | apply below_drew1) | exact HB.out)) hb); clear HO_12; clear HO526; clear HB; have HO_12 := n0_; have HO526 := n1_; have HB := n2_; clear n0_ n1_ n2_; (try clear hb); (try clear hb2); (try clear hk); (try clear hi)))
                                go_ret
                                exact ⟨by first | rfl | (simp [errW_none, errW_some] <;> rfl) | (simp [*, errW_none, errW_some] <;> rfl), by repeat (first | (with_reducible first | exact HB.out | apply below_alloc | apply pw_below_drewN | apply below_drew1) | exact HB.out)⟩
                              · rw [if_neg c40] at H
                                exact absurd H (by simp)
                            · rw [if_neg c39] at H
                              exact absurd H (by simp)
                          · rw [if_neg c38] at H
                            exact absurd H (by simp)
                        · rw [if_neg c35] at H
                          exact absurd H (by simp)
                      · rw [if_neg c34] at H
                        exact absurd H (by simp)
              · rw [if_neg c16] at H
                exact absurd H (by simp)
            · rw [if_neg c15] at H
              exact absurd H (by simp)
    · rw [if_neg c7] at H
      have c7b0 : (t495 == 0) = false := beq_eq_false_iff_ne.mpr c7
      have c7b1 : (t495 != 0) = true := bne_iff_ne.mpr c7
      by_cases c51 : t494 = 0
      · rw [if_pos c51] at H
        have c51b0 : (t494 == 0) = true := beq_iff_eq.mpr c51
        have c51b1 : (t494 != 0) = false := bne_eq_false_iff_eq.mpr c51
        clear c51
        replace H := Option.bind_eq_some_iff.mp H
        obtain ⟨t496, A520, H⟩ := H
        replace H : (if t496 = true then (none) else ((magnetolaw02_awake.f).bind fun t497 => (some t497))) = some r := H
        have A52 := Aside0.mk A520
        clear A520
        by_cases c53 : t496 = true
        · subst c53
          have H1 : (none) = some r := by rw [if_pos rfl] at H; exact H
          clear H
          have H := H1
          clear H1
          exact absurd H (by simp)
        · replace c53 := Bool.eq_false_iff.mpr c53
          subst c53
          have H1 : ((magnetolaw02_awake.f).bind fun t497 => (some t497)) = some r := by rw [if_neg (show ¬ (false = true) by decide)] at H; exact H
          clear H
          have H := H1
          clear H1
          replace H := Option.bind_eq_some_iff.mp H
          obtain ⟨t497, A540, H⟩ := H
          replace H : (some t497) = some r := H
          have A54 := Aside0.mk A540
          clear A540
          obtain rfl := Option.some.inj H
          go_enter Try.func12, Try.ntmps12
          go_wp2_with (first | ((with_reducible refine gate_callee (f := 36) rfl ?_); refine goesL_ (some 23) rfl rfl Try.func36 (by kernel_rfl) rfl #[.slice A0 l0.length c0] rfl (by (try simp only [List.map_toArray, List.map_cons, List.map_nil]); first | done | rfl | (simp only [List.length_drop, List.length_take]; rfl)) ?_; (with_reducible refine (crc15_Sum.calls _ _ l0 t494 t495 _ ?side1 ?side2 A6.out).mono ?_); (case side1 => repeat (first | exact HR0.out | (with_reducible refine Kd.C_alloc ?_ _) | (with_reducible refine Kd.C_drewN ?_ _) | (with_reducible refine Kd.C_drew ?_))); (case side2 => exact HC0.out); rintro e w55 ⟨rfl, hb⟩; refine ⟨_, rfl, ?_⟩; have n0_ := Aside0.mk (below_step (by repeat (first | (with_reducible first | exact HB.out | apply below_alloc | apply pw_below_drewN | apply below_drew1) | exact HB.out)) hb); clear HB; have HB := n0_; clear n0_; (try clear hb); (try clear hb2); (try clear hk); (try clear hi)) | (go_at_call 43; (with_reducible refine (crc15_Right.calls k _ _ l0 false _ ?side1 ?side2 A52.out).mono ?_); (case side1 => repeat (first | exact (Kd.C_below HR0.out HB.out) | (with_reducible refine Kd.C_alloc ?_ _) | (with_reducible refine Kd.C_drewN ?_ _) | (with_reducible refine Kd.C_drew ?_))); (case side2 => exact HC0.out); rintro e w56 ⟨rfl, hb⟩; have n0_ := Aside0.mk (below_step (by repeat (first | (with_reducible first | exact HB.out | apply below_alloc | apply pw_below_drewN | apply below_drew1) | exact HB.out)) hb); clear HB; have HB := n0_; clear n0_; (try clear hb); (try clear hb2); (try clear hk); (try clear hi)) | (go_at_call 35; (with_reducible refine (magnetolaw02_awake.calls  t497 _ A54.out).mono ?_); rintro e w57 ⟨rfl, hb⟩; have n0_ := Aside0.mk (below_step (by repeat (first | (with_reducible first | exact HB.out | apply below_alloc | apply pw_below_drewN | apply below_drew1) | exact HB.out)) hb); clear HB; have HB := n0_; clear n0_; (try clear hb); (try clear hb2); (try clear hk); (try clear hi)))
          go_ret
          exact ⟨by first | rfl | (simp [errW_none, errW_some] <;> rfl) | (simp [*, errW_none, errW_some] <;> rfl), by repeat (first | (with_reducible first | exact HB.out | apply below_alloc | apply pw_below_drewN | apply below_drew1) | exact HB.out)⟩
      · rw [if_neg c51] at H
        exact absurd H (by simp)

/-- THE ONE PURE STATEMENT of magnetolaw02_Crc15Right: yours. -/
def magnetolaw02_Crc15Right.Pure : Prop := ∀ (l0 : List Int) (a1 : Int), l0.length ≤ maxLen → l0.length * 8 ≤ 140737488351232 → (∀ x ∈ l0, (Lit.int .i64 x).wf = true) → (Lit.int .i64 a1).wf = true → ∃ k, magnetolaw02_Crc15Right.f k l0 a1 = some true
theorem magnetolaw02_Crc15Right.walk (P : magnetolaw02_Crc15Right.Pure) (a0 : Option Addr) (len0 cap0 : Nat) (z0 : List Int) (a1 : Int) (w : World) (w0 : (a0 = none ∧ len0 = 0 ∧ cap0 = 0 ∧ z0 = []) ∨ ∃ x, a0 = some x ∧ len0 ≤ cap0 ∧ cap0 ≤ maxLen ∧ z0.length = cap0 ∧ (∀ i, i < z0.length → w.cell? (x.add i) = some (.int .i64 (z0.getD i 0))) ∧ ∀ n ∈ z0, (Lit.int .i64 n).wf = true) (y0 : len0 * 8 ≤ 140737488351232) (w1 : (Lit.int .i64 a1).wf = true) :
    Calls Try.prog 12 #[.slice a0 len0 cap0, .int .i64 a1] w fun e w' => e = .returned (.bool true) ∧ Below w.heap.size w w' := by
  obtain ⟨l0, rfl, hr0, hm0, hw0, hc0⟩ := ReadsInt.ofRowC w0
  obtain ⟨k, h⟩ := P l0 a1 hm0 y0 hw0 w1
  refine (magnetolaw02_Crc15Right.calls k _ _ l0 a1 true w (Kd.C_of_reads (d := (0 : Int)) (h1 := fun _ => rfl) hr0) hc0 h).mono ?_
  rintro e w' ⟨rfl, hd⟩
  exact ⟨rfl, hd⟩

-- NOT PRINTED: function 13 (magnetolaw02_Crc15Turns)

end Go.Proofs.Ytclmogjmmcjppaa.PA
