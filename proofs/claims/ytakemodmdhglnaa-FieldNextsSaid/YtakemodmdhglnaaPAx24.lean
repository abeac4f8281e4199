/- Functions of the program, in plain Lean, and their walks (printed; half the indent). Conditions: none. -/
-- PRINTED by print.py (a twelfth state) out of the translation. Not trusted: Lean checks it.
import Derived.Test.YtakemodmdhglnaaPAx0
import Derived.Test.YtakemodmdhglnaaPAx17
import Derived.Test.YtakemodmdhglnaaPAx18
import Derived.Test.YtakemodmdhglnaaPAx20
import Derived.Test.YtakemodmdhglnaaPAx22
import Derived.Test.YtakemodmdhglnaaPAx23
namespace Go.Proofs.Ytakemodmdhglnaa.PA
open Go.RowKit Go.Proofs.YtakemodmdhglnaaW.PrintWords Go.Proofs.YtakemodmdhglnaaW.PrintLast Go.Proofs.YtakemodmdhglnaaW.PrintMore
attribute [local go_sem] max2_int min2_int max_two min_two max_three min_three max_four min_four   -- for this text's walks alone
set_option linter.unusedVariables false
set_option linter.unusedSimpArgs false

/-! ### magnetolaw04_FieldNexts: function 4 -/
def magnetolaw04_FieldNexts.j0 : Nat → List Int → Int → Int → Int → Bool → Option (Bool)
 | 0, _, _, _, _, _ => none
 | k + 1, x0, x3, x4, x5, x74 => if x74 = true then (none) else ((magnetoref04_Next.f k x0).bind fun bt424 => (if bt424.1 < 0 then (if x3 = 0 then (if x4 = 0 then (if x5 = 12 then ((magnetolaw04_awake.f k).bind fun t426 => (some t426)) else (none)) else (none)) else (none)) else ((magnetolaw04_kind.f k x3).bind fun t427 => (if t427 = bt424.1 then (if x4 = bt424.2 then (if x5 = 0 then ((magnetolaw04_awake.f k).bind fun t428 => (some t428)) else (none)) else (none)) else (none)))))
def magnetolaw04_FieldNexts.f (k : Nat) (l0 : List Int) : Option (Bool) := if (l0.length : Int) > 200 then ((magnetolaw04_awake.f k).bind fun t415 => (some t415)) else ((field_Next.f l0).bind fun bt416 => ((field_Ahead.f l0).bind fun bt419 => ((magnetolaw04_levels.f k l0).bind fun t421 => (if t421 = true then ((magnetoref04_Ahead.f k l0).bind fun t423 => (if t423 < 0 then (if bt419.1 = 0 then (if bt419.2 = 13 then (if t423 ≥ 0 then (if bt419.1 = t423 then (magnetolaw04_FieldNexts.j0 k l0 bt416.1 bt416.2.1 bt416.2.2 (bt419.2 != 0)) else (none)) else (magnetolaw04_FieldNexts.j0 k l0 bt416.1 bt416.2.1 bt416.2.2 false)) else (none)) else (none)) else (if t423 ≥ 0 then (if bt419.1 = t423 then (magnetolaw04_FieldNexts.j0 k l0 bt416.1 bt416.2.1 bt416.2.2 (bt419.2 != 0)) else (none)) else (magnetolaw04_FieldNexts.j0 k l0 bt416.1 bt416.2.1 bt416.2.2 false)))) else (if bt416.1 = 0 then (if bt416.2.1 = 0 then (if bt416.2.2 = 10 then (if bt419.1 = 0 then (if bt419.2 = 10 then ((magnetolaw04_awake.f k).bind fun t422 => (some t422)) else (none)) else (none)) else (none)) else (none)) else (none))))))
theorem magnetolaw04_FieldNexts.mono_l : ∀ k, (∀ y0 y1 y2 y3 y4, LeO (magnetolaw04_FieldNexts.j0 k y0 y1 y2 y3 y4) (magnetolaw04_FieldNexts.j0 (k + 1) y0 y1 y2 y3 y4))
 | 0 => fun _ _ _ _ _ r h => by simp [magnetolaw04_FieldNexts.j0] at h
 | k + 1 => by
  have ih0 := magnetolaw04_FieldNexts.mono_l k
  ·
   intro y0 y1 y2 y3 y4
   unfold magnetolaw04_FieldNexts.j0
   repeat' first
   | (with_reducible exact ih0 _ _ _ _ _)
   | (with_reducible exact magnetolaw04_awake.mono _)
   | (with_reducible exact magnetolaw04_kind.mono _ _)
   | (with_reducible exact magnetolaw04_levels.mono _ _)
   | (with_reducible exact magnetoref04_Ahead.mono _ _)
   | (with_reducible exact magnetoref04_Next.mono _ _)
   | (with_reducible exact LeO.refl _)
   | (with_reducible exact LeO.none _)
   | (with_reducible refine LeO.ite ?_ ?_)
   | (with_reducible refine LeO.bind ?_ (fun _ => ?_))
   | exact ih0 _ _ _ _ _
   | exact magnetolaw04_awake.mono _
   | exact magnetolaw04_kind.mono _ _
   | exact magnetolaw04_levels.mono _ _
   | exact magnetoref04_Ahead.mono _ _
   | exact magnetoref04_Next.mono _ _
   | exact LeO.none _
   | refine LeO.ite ?_ ?_
   | refine LeO.bind ?_ (fun _ => ?_)
theorem magnetolaw04_FieldNexts.mono : ∀ a0 k, LeO (magnetolaw04_FieldNexts.f k a0) (magnetolaw04_FieldNexts.f (k + 1) a0) := by
 intro a0 k
 have ih0 := magnetolaw04_FieldNexts.mono_l k
 unfold magnetolaw04_FieldNexts.f
 repeat' first
   | (with_reducible exact ih0 _ _ _ _ _)
   | (with_reducible exact magnetolaw04_awake.mono _)
   | (with_reducible exact magnetolaw04_kind.mono _ _)
   | (with_reducible exact magnetolaw04_levels.mono _ _)
   | (with_reducible exact magnetoref04_Ahead.mono _ _)
   | (with_reducible exact magnetoref04_Next.mono _ _)
   | (with_reducible exact LeO.refl _)
   | (with_reducible exact LeO.none _)
   | (with_reducible refine LeO.ite ?_ ?_)
   | (with_reducible refine LeO.bind ?_ (fun _ => ?_))
   | exact ih0 _ _ _ _ _
   | exact magnetolaw04_awake.mono _
   | exact magnetolaw04_kind.mono _ _
   | exact magnetolaw04_levels.mono _ _
   | exact magnetoref04_Ahead.mono _ _
   | exact magnetoref04_Next.mono _ _
   | exact LeO.none _
   | refine LeO.ite ?_ ?_
   | refine LeO.bind ?_ (fun _ => ?_)
set_option maxHeartbeats 8000000 in
set_option maxRecDepth 100000 in
theorem magnetolaw04_FieldNexts.calls (k : Nat) (A0 : Option Addr) (c0 : Nat) (l0 : List Int) (r : Bool) (w : World) (hr0 : Kd.C (Kd.int .i64) w A0 l0.length l0) (hc0 : l0.length ≤ c0) (h : magnetolaw04_FieldNexts.f k l0 = some r) :
  Calls Try.prog 4 #[.slice A0 l0.length c0] w fun e w' => e = .returned (.bool r) ∧ Below w.heap.size w w' := by
 have HR0 := Aside0.mk hr0
 have HC0 := Aside0.mk hc0
 clear hr0 hc0
 have HB := Aside0.mk (Below.refl w.heap.size w)
 have H : (if (l0.length : Int) > 200 then ((magnetolaw04_awake.f k).bind fun t415 => (some t415)) else ((field_Next.f l0).bind fun bt416 => ((field_Ahead.f l0).bind fun bt419 => ((magnetolaw04_levels.f k l0).bind fun t421 => (if t421 = true then ((magnetoref04_Ahead.f k l0).bind fun t423 => (if t423 < 0 then (if bt419.1 = 0 then (if bt419.2 = 13 then (if t423 ≥ 0 then (if bt419.1 = t423 then (magnetolaw04_FieldNexts.j0 k l0 bt416.1 bt416.2.1 bt416.2.2 (bt419.2 != 0)) else (none)) else (magnetolaw04_FieldNexts.j0 k l0 bt416.1 bt416.2.1 bt416.2.2 false)) else (none)) else (none)) else (if t423 ≥ 0 then (if bt419.1 = t423 then (magnetolaw04_FieldNexts.j0 k l0 bt416.1 bt416.2.1 bt416.2.2 (bt419.2 != 0)) else (none)) else (magnetolaw04_FieldNexts.j0 k l0 bt416.1 bt416.2.1 bt416.2.2 false)))) else (if bt416.1 = 0 then (if bt416.2.1 = 0 then (if bt416.2.2 = 10 then (if bt419.1 = 0 then (if bt419.2 = 10 then ((magnetolaw04_awake.f k).bind fun t422 => (some t422)) else (none)) else (none)) else (none)) else (none)) else (none))))))) = some r := h
 clear h
 by_cases c2 : (l0.length : Int) > 200
 ·
  rw [if_pos c2] at H
  have c2b0 : decide (200 < (l0.length : Int)) = true := decide_eq_true c2
  have c2b1 : decide (200 < l0.length) = true := decide_eq_true (by omega)
  clear c2
  replace H := Option.bind_eq_some_iff.mp H
  obtain ⟨t415, A30, H⟩ := H
  replace H : (some t415) = some r := H
  have A3 := Aside0.mk A30
  clear A30
  obtain rfl := Option.some.inj H
  go_enter Try.func4, Try.ntmps4
  go_wp2_with (first | ((with_reducible refine gate_callee (f := 19) rfl ?_); refine goesL_ (some 14) rfl rfl Try.func19 (by kernel_rfl) rfl #[] rfl (by (try simp only [List.map_toArray, List.map_cons, List.map_nil]); first | done | rfl | (simp only [List.length_drop, List.length_take]; rfl)) ?_; (with_reducible refine (magnetolaw04_awake.calls k  t415 _ A3.out).mono ?_); rintro e w4 ⟨rfl, hb⟩; refine ⟨_, rfl, ?_⟩; have n0_ := Aside0.mk (below_step (by repeat (first | (with_reducible first | exact HB.out | apply below_alloc | apply pw_below_drewN | apply below_drew1) | exact HB.out)) hb); clear HB; have HB := n0_; clear n0_; (try clear hb); (try clear hb2); (try clear hk); (try clear hi)))
  go_ret
  exact ⟨by first | rfl | (simp [errW_none, errW_some] <;> rfl) | (simp [*, errW_none, errW_some] <;> rfl), by repeat (first | (with_reducible first | exact HB.out | apply below_alloc | apply pw_below_drewN | apply below_drew1) | exact HB.out)⟩
 ·
  rw [if_neg c2] at H
  have c2b0 : decide (200 < (l0.length : Int)) = false := decide_eq_false c2
  have c2b1 : decide (200 < l0.length) = false := decide_eq_false (by omega)
  clear c2
  replace H := Option.bind_eq_some_iff.mp H
  obtain ⟨⟨t416, t417, t418⟩, A50, H⟩ := H
  replace H : ((field_Ahead.f l0).bind fun bt419 => ((magnetolaw04_levels.f k l0).bind fun t421 => (if t421 = true then ((magnetoref04_Ahead.f k l0).bind fun t423 => (if t423 < 0 then (if bt419.1 = 0 then (if bt419.2 = 13 then (if t423 ≥ 0 then (if bt419.1 = t423 then (magnetolaw04_FieldNexts.j0 k l0 t416 t417 t418 (bt419.2 != 0)) else (none)) else (magnetolaw04_FieldNexts.j0 k l0 t416 t417 t418 false)) else (none)) else (none)) else (if t423 ≥ 0 then (if bt419.1 = t423 then (magnetolaw04_FieldNexts.j0 k l0 t416 t417 t418 (bt419.2 != 0)) else (none)) else (magnetolaw04_FieldNexts.j0 k l0 t416 t417 t418 false)))) else (if t416 = 0 then (if t417 = 0 then (if t418 = 10 then (if bt419.1 = 0 then (if bt419.2 = 10 then ((magnetolaw04_awake.f k).bind fun t422 => (some t422)) else (none)) else (none)) else (none)) else (none)) else (none))))) = some r := H
  have A5 := Aside0.mk A50
  clear A50
  replace H := Option.bind_eq_some_iff.mp H
  obtain ⟨⟨t419, t420⟩, A60, H⟩ := H
  replace H : ((magnetolaw04_levels.f k l0).bind fun t421 => (if t421 = true then ((magnetoref04_Ahead.f k l0).bind fun t423 => (if t423 < 0 then (if t419 = 0 then (if t420 = 13 then (if t423 ≥ 0 then (if t419 = t423 then (magnetolaw04_FieldNexts.j0 k l0 t416 t417 t418 (t420 != 0)) else (none)) else (magnetolaw04_FieldNexts.j0 k l0 t416 t417 t418 false)) else (none)) else (none)) else (if t423 ≥ 0 then (if t419 = t423 then (magnetolaw04_FieldNexts.j0 k l0 t416 t417 t418 (t420 != 0)) else (none)) else (magnetolaw04_FieldNexts.j0 k l0 t416 t417 t418 false)))) else (if t416 = 0 then (if t417 = 0 then (if t418 = 10 then (if t419 = 0 then (if t420 = 10 then ((magnetolaw04_awake.f k).bind fun t422 => (some t422)) else (none)) else (none)) else (none)) else (none)) else (none)))) = some r := H
  have A6 := Aside0.mk A60
  clear A60
  replace H := Option.bind_eq_some_iff.mp H
  obtain ⟨t421, A70, H⟩ := H
  replace H : (if t421 = true then ((magnetoref04_Ahead.f k l0).bind fun t423 => (if t423 < 0 then (if t419 = 0 then (if t420 = 13 then (if t423 ≥ 0 then (if t419 = t423 then (magnetolaw04_FieldNexts.j0 k l0 t416 t417 t418 (t420 != 0)) else (none)) else (magnetolaw04_FieldNexts.j0 k l0 t416 t417 t418 false)) else (none)) else (none)) else (if t423 ≥ 0 then (if t419 = t423 then (magnetolaw04_FieldNexts.j0 k l0 t416 t417 t418 (t420 != 0)) else (none)) else (magnetolaw04_FieldNexts.j0 k l0 t416 t417 t418 false)))) else (if t416 = 0 then (if t417 = 0 then (if t418 = 10 then (if t419 = 0 then (if t420 = 10 then ((magnetolaw04_awake.f k).bind fun t422 => (some t422)) else (none)) else (none)) else (none)) else (none)) else (none))) = some r := H
  have A7 := Aside0.mk A70
  clear A70
  by_cases c8 : t421 = true
  ·
   subst c8
   have H1 : ((magnetoref04_Ahead.f k l0).bind fun t423 => (if t423 < 0 then (if t419 = 0 then (if t420 = 13 then (if t423 ≥ 0 then (if t419 = t423 then (magnetolaw04_FieldNexts.j0 k l0 t416 t417 t418 (t420 != 0)) else (none)) else (magnetolaw04_FieldNexts.j0 k l0 t416 t417 t418 false)) else (none)) else (none)) else (if t423 ≥ 0 then (if t419 = t423 then (magnetolaw04_FieldNexts.j0 k l0 t416 t417 t418 (t420 != 0)) else (none)) else (magnetolaw04_FieldNexts.j0 k l0 t416 t417 t418 false)))) = some r := by rw [if_pos rfl] at H; exact H
   clear H
   have H := H1
   clear H1
   replace H := Option.bind_eq_some_iff.mp H
   obtain ⟨t423, A90, H⟩ := H
   replace H : (if t423 < 0 then (if t419 = 0 then (if t420 = 13 then (if t423 ≥ 0 then (if t419 = t423 then (magnetolaw04_FieldNexts.j0 k l0 t416 t417 t418 (t420 != 0)) else (none)) else (magnetolaw04_FieldNexts.j0 k l0 t416 t417 t418 false)) else (none)) else (none)) else (if t423 ≥ 0 then (if t419 = t423 then (magnetolaw04_FieldNexts.j0 k l0 t416 t417 t418 (t420 != 0)) else (none)) else (magnetolaw04_FieldNexts.j0 k l0 t416 t417 t418 false))) = some r := H
   have A9 := Aside0.mk A90
   clear A90
   have HC10 := Aside0.mk H
   clear H
   go_enter Try.func4, Try.ntmps4
   go_upto_region 8 with (first | ((with_reducible refine gate_callee (f := 23) rfl ?_); refine goesL_ (some 17) rfl rfl Try.func23 (by kernel_rfl) rfl #[.slice A0 l0.length c0] rfl (by (try simp only [List.map_toArray, List.map_cons, List.map_nil]); first | done | rfl | (simp only [List.length_drop, List.length_take]; rfl)) ?_; (with_reducible refine (field_Next.calls _ _ l0 t416 t417 t418 _ ?side1 ?side2 A5.out).mono ?_); (case side1 => repeat (first | exact HR0.out | (with_reducible refine Kd.C_alloc ?_ _) | (with_reducible refine Kd.C_drewN ?_ _) | (with_reducible refine Kd.C_drew ?_))); (case side2 => exact HC0.out); rintro e w11 ⟨rfl, hb⟩; refine ⟨_, rfl, ?_⟩; have n0_ := Aside0.mk (below_step (by repeat (first | (with_reducible first | exact HB.out | apply below_alloc | apply pw_below_drewN | apply below_drew1) | exact HB.out)) hb); clear HB; have HB := n0_; clear n0_; (try clear hb); (try clear hb2); (try clear hk); (try clear hi)) | ((with_reducible refine gate_callee (f := 24) rfl ?_); refine goesL_ (some 23) rfl rfl Try.func24 (by kernel_rfl) rfl #[.slice A0 l0.length c0] rfl (by (try simp only [List.map_toArray, List.map_cons, List.map_nil]); first | done | rfl | (simp only [List.length_drop, List.length_take]; rfl)) ?_; (with_reducible refine (field_Ahead.calls _ _ l0 t419 t420 _ ?side1 ?side2 A6.out).mono ?_); (case side1 => repeat (first | exact (Kd.C_below HR0.out HB.out) | (with_reducible refine Kd.C_alloc ?_ _) | (with_reducible refine Kd.C_drewN ?_ _) | (with_reducible refine Kd.C_drew ?_))); (case side2 => exact HC0.out); rintro e w12 ⟨rfl, hb⟩; refine ⟨_, rfl, ?_⟩; have n0_ := Aside0.mk (below_step (by repeat (first | (with_reducible first | exact HB.out | apply below_alloc | apply pw_below_drewN | apply below_drew1) | exact HB.out)) hb); clear HB; have HB := n0_; clear n0_; (try clear hb); (try clear hb2); (try clear hk); (try clear hi)) | ((with_reducible refine gate_callee (f := 25) rfl ?_); refine goesL_ (some 27) rfl rfl Try.func25 (by kernel_rfl) rfl #[.slice A0 l0.length c0] rfl (by (try simp only [List.map_toArray, List.map_cons, List.map_nil]); first | done | rfl | (simp only [List.length_drop, List.length_take]; rfl)) ?_; (with_reducible refine (magnetolaw04_levels.calls k _ _ l0 true _ ?side1 ?side2 A7.out).mono ?_); (case side1 => repeat (first | exact (Kd.C_below HR0.out HB.out) | (with_reducible refine Kd.C_alloc ?_ _) | (with_reducible refine Kd.C_drewN ?_ _) | (with_reducible refine Kd.C_drew ?_))); (case side2 => exact HC0.out); rintro e w' ⟨rfl, ⟨nd, rfl⟩⟩; refine ⟨_, rfl, ?_⟩) | ((with_reducible refine gate_callee (f := 26) rfl ?_); refine goesL_ (some 51) rfl rfl Try.func26 (by kernel_rfl) rfl #[.slice A0 l0.length c0] rfl (by (try simp only [List.map_toArray, List.map_cons, List.map_nil]); first | done | rfl | (simp only [List.length_drop, List.length_take]; rfl)) ?_; (with_reducible refine (magnetoref04_Ahead.calls k _ _ l0 t423 _ ?side1 ?side2 A9.out).mono ?_); (case side1 => repeat (first | exact (Kd.C_below HR0.out (by repeat (first | (with_reducible first | exact HB.out | apply below_alloc | apply pw_below_drewN | apply below_drew1) | exact HB.out))) | (with_reducible refine Kd.C_alloc ?_ _) | (with_reducible refine Kd.C_drewN ?_ _) | (with_reducible refine Kd.C_drew ?_))); (case side2 => exact HC0.out); rintro e w13 ⟨rfl, hb⟩; refine ⟨_, rfl, ?_⟩; have n0_ := Aside0.mk (below_step (by repeat (first | (with_reducible first | exact HB.out | apply below_alloc | apply pw_below_drewN | apply below_drew1) | exact HB.out)) hb); clear HB; have HB := n0_; clear n0_; (try clear hb); (try clear hb2); (try clear hk); (try clear hi)))
   (try simp only [Act.put, List.setIfInBounds_toArray, List.set_cons_zero, List.set_cons_succ])
   go_cut [74] (fun v74 wc => ∃ (kq : Nat) (x74_9 : Bool), v74 = .bool x74_9 ∧ Aside0 (magnetolaw04_FieldNexts.j0 kq l0 t416 t417 t418 x74_9 = some r) ∧ Aside0 (kq ≤ k) ∧ Aside0 (Below w.heap.size w wc))
   case first =>
    have H := HC10.out
    clear HC10
    by_cases c14 : t423 < 0
    ·
     rw [if_pos c14] at H
     have c14b0 : decide (t423 < 0) = true := decide_eq_true c14
     clear c14
     (first | rw [c14b0] | (simp only [i64_w, i32_w]; rw [c14b0]) | skip)
     by_cases c15 : t419 = 0
     ·
      rw [if_pos c15] at H
      have c15b0 : (t419 == 0) = true := beq_iff_eq.mpr c15
      have c15b1 : (t419 != 0) = false := bne_eq_false_iff_eq.mpr c15
      clear c15
      by_cases c16 : t420 = 13
      ·
       rw [if_pos c16] at H
       have c16b0 : (t420 == 13) = true := beq_iff_eq.mpr c16
       have c16b1 : (t420 != 13) = false := bne_eq_false_iff_eq.mpr c16
       clear c16
       by_cases c17 : t423 ≥ 0
       ·
        rw [if_pos c17] at H
        have c17b0 : decide (0 ≤ t423) = true := decide_eq_true c17
        clear c17
        by_cases c18 : t419 = t423
        ·
         rw [if_pos c18] at H
         have c18b0 : (t419 == t423) = true := beq_iff_eq.mpr c18
         have c18b1 : (t419 != t423) = false := bne_eq_false_iff_eq.mpr c18
         clear c18
         have H' := Aside0.mk H
         clear H
         go_wp2
         go_meet
         case rel => exact ⟨_, ((t420 != 0)), (by first | rfl | (simp; done) | (simp [*]; done)), H', ⟨by first | omega | exact Nat.le_refl _⟩, ⟨by repeat (first | (with_reducible first | exact HB.out | apply below_alloc | apply pw_below_drewN | apply below_drew1) | exact HB.out)⟩⟩
        ·
         rw [if_neg c18] at H
         exact absurd H (by simp)
       ·
        rw [if_neg c17] at H
        have c17b0 : decide (0 ≤ t423) = false := decide_eq_false c17
        clear c17
        have H' := Aside0.mk H
        clear H
        go_wp2
        go_meet
        case rel => exact ⟨_, (false), (by first | rfl | (simp; done) | (simp [*]; done)), H', ⟨by first | omega | exact Nat.le_refl _⟩, ⟨by repeat (first | (with_reducible first | exact HB.out | apply below_alloc | apply pw_below_drewN | apply below_drew1) | exact HB.out)⟩⟩
      ·
       rw [if_neg c16] at H
       exact absurd H (by simp)
     ·
      rw [if_neg c15] at H
      exact absurd H (by simp)
    ·
     rw [if_neg c14] at H
     have c14b0 : decide (t423 < 0) = false := decide_eq_false c14
     clear c14
     (first | rw [c14b0] | (simp only [i64_w, i32_w]; rw [c14b0]) | skip)
     by_cases c19 : t423 ≥ 0
     ·
      rw [if_pos c19] at H
      have c19b0 : decide (0 ≤ t423) = true := decide_eq_true c19
      clear c19
      by_cases c20 : t419 = t423
      ·
       rw [if_pos c20] at H
       have c20b0 : (t419 == t423) = true := beq_iff_eq.mpr c20
       have c20b1 : (t419 != t423) = false := bne_eq_false_iff_eq.mpr c20
       clear c20
       have H' := Aside0.mk H
       clear H
       go_wp2
       go_meet
       case rel => exact ⟨_, ((t420 != 0)), (by first | rfl | (simp; done) | (simp [*]; done)), H', ⟨by first | omega | exact Nat.le_refl _⟩, ⟨by repeat (first | (with_reducible first | exact HB.out | apply below_alloc | apply pw_below_drewN | apply below_drew1) | exact HB.out)⟩⟩
      ·
       rw [if_neg c20] at H
       exact absurd H (by simp)
     ·
      rw [if_neg c19] at H
      have c19b0 : decide (0 ≤ t423) = false := decide_eq_false c19
      clear c19
      have H' := Aside0.mk H
      clear H
      go_wp2
      go_meet
      case rel => exact ⟨_, (false), (by first | rfl | (simp; done) | (simp [*]; done)), H', ⟨by first | omega | exact Nat.le_refl _⟩, ⟨by repeat (first | (with_reducible first | exact HB.out | apply below_alloc | apply pw_below_drewN | apply below_drew1) | exact HB.out)⟩⟩
   case rest =>
    clear HC10
    try clear c1
    try clear c2
    try clear c2b0
    try clear c2b1
    try clear p2
    try clear c4
    try clear c8
    try clear c14
    try clear c14b0
    try clear c15
    try clear c15b0
    try clear c15b1
    try clear c16
    try clear c16b0
    try clear c16b1
    try clear c17
    try clear c17b0
    try clear c18
    try clear c18b0
    try clear c18b1
    try clear c19
    try clear c19b0
    try clear c20
    try clear c20b0
    try clear c20b1
    obtain ⟨kq, x74_9, rfl, HA, HJ9, HB⟩ := hcut
    cases kq with
    | zero => exact absurd HA.out (by simp [magnetolaw04_FieldNexts.j0])
    | succ kj9 =>
     have H := HA.out
     clear HA
     simp only [magnetolaw04_FieldNexts.j0] at H
     by_cases c21 : x74_9 = true
     ·
      subst c21
      have H1 : (none) = some r := by rw [if_pos rfl] at H; exact H
      clear H
      have H := H1
      clear H1
      exact absurd H (by simp)
     ·
      replace c21 := Bool.eq_false_iff.mpr c21
      subst c21
      have H1 : ((magnetoref04_Next.f kj9 l0).bind fun bt424 => (if bt424.1 < 0 then (if t416 = 0 then (if t417 = 0 then (if t418 = 12 then ((magnetolaw04_awake.f kj9).bind fun t426 => (some t426)) else (none)) else (none)) else (none)) else ((magnetolaw04_kind.f kj9 t416).bind fun t427 => (if t427 = bt424.1 then (if t417 = bt424.2 then (if t418 = 0 then ((magnetolaw04_awake.f kj9).bind fun t428 => (some t428)) else (none)) else (none)) else (none))))) = some r := by rw [if_neg (show ¬ (false = true) by decide)] at H; exact H
      clear H
      have H := H1
      clear H1
      replace H := Option.bind_eq_some_iff.mp H
      obtain ⟨⟨t424, t425⟩, A220, H⟩ := H
      replace H : (if t424 < 0 then (if t416 = 0 then (if t417 = 0 then (if t418 = 12 then ((magnetolaw04_awake.f kj9).bind fun t426 => (some t426)) else (none)) else (none)) else (none)) else ((magnetolaw04_kind.f kj9 t416).bind fun t427 => (if t427 = t424 then (if t417 = t425 then (if t418 = 0 then ((magnetolaw04_awake.f kj9).bind fun t428 => (some t428)) else (none)) else (none)) else (none)))) = some r := H
      have A22 := Aside0.mk A220
      clear A220
      by_cases c23 : t424 < 0
      ·
       rw [if_pos c23] at H
       have c23b0 : decide (t424 < 0) = true := decide_eq_true c23
       clear c23
       by_cases c24 : t416 = 0
       ·
        rw [if_pos c24] at H
        have c24b0 : (t416 == 0) = true := beq_iff_eq.mpr c24
        have c24b1 : (t416 != 0) = false := bne_eq_false_iff_eq.mpr c24
        clear c24
        by_cases c25 : t417 = 0
        ·
         rw [if_pos c25] at H
         have c25b0 : (t417 == 0) = true := beq_iff_eq.mpr c25
         have c25b1 : (t417 != 0) = false := bne_eq_false_iff_eq.mpr c25
         clear c25
         by_cases c26 : t418 = 12
         ·
          rw [if_pos c26] at H
          have c26b0 : (t418 == 12) = true := beq_iff_eq.mpr c26
          have c26b1 : (t418 != 12) = false := bne_eq_false_iff_eq.mpr c26
          clear c26
          replace H := Option.bind_eq_some_iff.mp H
          obtain ⟨t426, A270, H⟩ := H
          replace H : (some t426) = some r := H
          have A27 := Aside0.mk A270
          clear A270
          obtain rfl := Option.some.inj H
          go_wp2_with (first | ((with_reducible refine gate_callee (f := 27) rfl ?_); refine goesL_ (some 77) rfl rfl Try.func27 (by kernel_rfl) rfl #[.slice A0 l0.length c0] rfl (by (try simp only [List.map_toArray, List.map_cons, List.map_nil]); first | done | rfl | (simp only [List.length_drop, List.length_take]; rfl)) ?_; (with_reducible refine (magnetoref04_Next.calls kj9 _ _ l0 t424 t425 _ ?side1 ?side2 A22.out).mono ?_); (case side1 => repeat (first | exact (Kd.C_below HR0.out HB.out) | (with_reducible refine Kd.C_alloc ?_ _) | (with_reducible refine Kd.C_drewN ?_ _) | (with_reducible refine Kd.C_drew ?_))); (case side2 => exact HC0.out); rintro e w28 ⟨rfl, hb⟩; refine ⟨_, rfl, ?_⟩; have n0_ := Aside0.mk (below_step (by repeat (first | (with_reducible first | exact HB.out | apply below_alloc | apply pw_below_drewN | apply below_drew1) | exact HB.out)) hb); clear HB; have HB := n0_; clear n0_; (try clear hb); (try clear hb2); (try clear hk); (try clear hi)) | (go_at_call 19; (with_reducible refine (magnetolaw04_awake.calls kj9  t426 _ A27.out).mono ?_); rintro e w29 ⟨rfl, hb⟩; have n0_ := Aside0.mk (below_step (by repeat (first | (with_reducible first | exact HB.out | apply below_alloc | apply pw_below_drewN | apply below_drew1) | exact HB.out)) hb); clear HB; have HB := n0_; clear n0_; (try clear hb); (try clear hb2); (try clear hk); (try clear hi)))
          go_ret
          exact ⟨by first | rfl | (simp [errW_none, errW_some] <;> rfl) | (simp [*, errW_none, errW_some] <;> rfl), by repeat (first | (with_reducible first | exact HB.out | apply below_alloc | apply pw_below_drewN | apply below_drew1) | exact HB.out)⟩
         ·
          rw [if_neg c26] at H
          exact absurd H (by simp)
        ·
         rw [if_neg c25] at H
         exact absurd H (by simp)
       ·
        rw [if_neg c24] at H
        exact absurd H (by simp)
      ·
       rw [if_neg c23] at H
       have c23b0 : decide (t424 < 0) = false := decide_eq_false c23
       clear c23
       replace H := Option.bind_eq_some_iff.mp H
       obtain ⟨t427, A300, H⟩ := H
       replace H : (if t427 = t424 then (if t417 = t425 then (if t418 = 0 then ((magnetolaw04_awake.f kj9).bind fun t428 => (some t428)) else (none)) else (none)) else (none)) = some r := H
       have A30 := Aside0.mk A300
       clear A300
       by_cases c31 : t427 = t424
       ·
        rw [if_pos c31] at H
        have c31b0 : (t427 == t424) = true := beq_iff_eq.mpr c31
        have c31b1 : (t427 != t424) = false := bne_eq_false_iff_eq.mpr c31
        clear c31
        by_cases c32 : t417 = t425
        ·
         rw [if_pos c32] at H
         have c32b0 : (t417 == t425) = true := beq_iff_eq.mpr c32
         have c32b1 : (t417 != t425) = false := bne_eq_false_iff_eq.mpr c32
         clear c32
         by_cases c33 : t418 = 0
         ·
          rw [if_pos c33] at H
          have c33b0 : (t418 == 0) = true := beq_iff_eq.mpr c33
          have c33b1 : (t418 != 0) = false := bne_eq_false_iff_eq.mpr c33
          clear c33
          replace H := Option.bind_eq_some_iff.mp H
          obtain ⟨t428, A340, H⟩ := H
          replace H : (some t428) = some r := H
          have A34 := Aside0.mk A340
          clear A340
          obtain rfl := Option.some.inj H
          go_wp2_with (first | ((with_reducible refine gate_callee (f := 27) rfl ?_); refine goesL_ (some 77) rfl rfl Try.func27 (by kernel_rfl) rfl #[.slice A0 l0.length c0] rfl (by (try simp only [List.map_toArray, List.map_cons, List.map_nil]); first | done | rfl | (simp only [List.length_drop, List.length_take]; rfl)) ?_; (with_reducible refine (magnetoref04_Next.calls kj9 _ _ l0 t424 t425 _ ?side1 ?side2 A22.out).mono ?_); (case side1 => repeat (first | exact (Kd.C_below HR0.out HB.out) | (with_reducible refine Kd.C_alloc ?_ _) | (with_reducible refine Kd.C_drewN ?_ _) | (with_reducible refine Kd.C_drew ?_))); (case side2 => exact HC0.out); rintro e w35 ⟨rfl, hb⟩; refine ⟨_, rfl, ?_⟩; have n0_ := Aside0.mk (below_step (by repeat (first | (with_reducible first | exact HB.out | apply below_alloc | apply pw_below_drewN | apply below_drew1) | exact HB.out)) hb); clear HB; have HB := n0_; clear n0_; (try clear hb); (try clear hb2); (try clear hk); (try clear hi)) | ((with_reducible refine gate_callee (f := 28) rfl ?_); refine goesL_ (some 96) rfl rfl Try.func28 (by kernel_rfl) rfl #[.int .i64 t416] rfl (by (try simp only [List.map_toArray, List.map_cons, List.map_nil]); first | done | rfl | (simp only [List.length_drop, List.length_take]; rfl)) ?_; (with_reducible refine (magnetolaw04_kind.calls kj9 t416 t427 _ A30.out).mono ?_); rintro e w36 ⟨rfl, hb⟩; refine ⟨_, rfl, ?_⟩; have n0_ := Aside0.mk (below_step (by repeat (first | (with_reducible first | exact HB.out | apply below_alloc | apply pw_below_drewN | apply below_drew1) | exact HB.out)) hb); clear HB; have HB := n0_; clear n0_; (try clear hb); (try clear hb2); (try clear hk); (try clear hi)) | (go_at_call 19; (with_reducible refine (magnetolaw04_awake.calls kj9  t428 _ A34.out).mono ?_); rintro e w37 ⟨rfl, hb⟩; have n0_ := Aside0.mk (below_step (by repeat (first | (with_reducible first | exact HB.out | apply below_alloc | apply pw_below_drewN | apply below_drew1) | exact HB.out)) hb); clear HB; have HB := n0_; clear n0_; (try clear hb); (try clear hb2); (try clear hk); (try clear hi)))
          go_ret
          exact ⟨by first | rfl | (simp [errW_none, errW_some] <;> rfl) | (simp [*, errW_none, errW_some] <;> rfl), by repeat (first | (with_reducible first | exact HB.out | apply below_alloc | apply pw_below_drewN | apply below_drew1) | exact HB.out)⟩
         ·
          rw [if_neg c33] at H
          exact absurd H (by simp)
        ·
         rw [if_neg c32] at H
         exact absurd H (by simp)
       ·
        rw [if_neg c31] at H
        exact absurd H (by simp)
  ·
   replace c8 := Bool.eq_false_iff.mpr c8
   subst c8
   have H1 : (if t416 = 0 then (if t417 = 0 then (if t418 = 10 then (if t419 = 0 then (if t420 = 10 then ((magnetolaw04_awake.f k).bind fun t422 => (some t422)) else (none)) else (none)) else (none)) else (none)) else (none)) = some r := by rw [if_neg (show ¬ (false = true) by decide)] at H; exact H
   clear H
   have H := H1
   clear H1
   by_cases c38 : t416 = 0
   ·
    rw [if_pos c38] at H
    have c38b0 : (t416 == 0) = true := beq_iff_eq.mpr c38
    have c38b1 : (t416 != 0) = false := bne_eq_false_iff_eq.mpr c38
    clear c38
    by_cases c39 : t417 = 0
    ·
     rw [if_pos c39] at H
     have c39b0 : (t417 == 0) = true := beq_iff_eq.mpr c39
     have c39b1 : (t417 != 0) = false := bne_eq_false_iff_eq.mpr c39
     clear c39
     by_cases c40 : t418 = 10
     ·
      rw [if_pos c40] at H
      have c40b0 : (t418 == 10) = true := beq_iff_eq.mpr c40
      have c40b1 : (t418 != 10) = false := bne_eq_false_iff_eq.mpr c40
      clear c40
      by_cases c41 : t419 = 0
      ·
       rw [if_pos c41] at H
       have c41b0 : (t419 == 0) = true := beq_iff_eq.mpr c41
       have c41b1 : (t419 != 0) = false := bne_eq_false_iff_eq.mpr c41
       clear c41
       by_cases c42 : t420 = 10
       ·
        rw [if_pos c42] at H
        have c42b0 : (t420 == 10) = true := beq_iff_eq.mpr c42
        have c42b1 : (t420 != 10) = false := bne_eq_false_iff_eq.mpr c42
        clear c42
        replace H := Option.bind_eq_some_iff.mp H
        obtain ⟨t422, A430, H⟩ := H
        replace H : (some t422) = some r := H
        have A43 := Aside0.mk A430
        clear A430
        obtain rfl := Option.some.inj H
        go_enter Try.func4, Try.ntmps4
        go_wp2_with (first | ((with_reducible refine gate_callee (f := 23) rfl ?_); refine goesL_ (some 17) rfl rfl Try.func23 (by kernel_rfl) rfl #[.slice A0 l0.length c0] rfl (by (try simp only [List.map_toArray, List.map_cons, List.map_nil]); first | done | rfl | (simp only [List.length_drop, List.length_take]; rfl)) ?_; (with_reducible refine (field_Next.calls _ _ l0 t416 t417 t418 _ ?side1 ?side2 A5.out).mono ?_); (case side1 => repeat (first | exact HR0.out | (with_reducible refine Kd.C_alloc ?_ _) | (with_reducible refine Kd.C_drewN ?_ _) | (with_reducible refine Kd.C_drew ?_))); (case side2 => exact HC0.out); rintro e w44 ⟨rfl, hb⟩; refine ⟨_, rfl, ?_⟩; have n0_ := Aside0.mk (below_step (by repeat (first | (with_reducible first | exact HB.out | apply below_alloc | apply pw_below_drewN | apply below_drew1) | exact HB.out)) hb); clear HB; have HB := n0_; clear n0_; (try clear hb); (try clear hb2); (try clear hk); (try clear hi)) | ((with_reducible refine gate_callee (f := 24) rfl ?_); refine goesL_ (some 23) rfl rfl Try.func24 (by kernel_rfl) rfl #[.slice A0 l0.length c0] rfl (by (try simp only [List.map_toArray, List.map_cons, List.map_nil]); first | done | rfl | (simp only [List.length_drop, List.length_take]; rfl)) ?_; (with_reducible refine (field_Ahead.calls _ _ l0 t419 t420 _ ?side1 ?side2 A6.out).mono ?_); (case side1 => repeat (first | exact (Kd.C_below HR0.out HB.out) | (with_reducible refine Kd.C_alloc ?_ _) | (with_reducible refine Kd.C_drewN ?_ _) | (with_reducible refine Kd.C_drew ?_))); (case side2 => exact HC0.out); rintro e w45 ⟨rfl, hb⟩; refine ⟨_, rfl, ?_⟩; have n0_ := Aside0.mk (below_step (by repeat (first | (with_reducible first | exact HB.out | apply below_alloc | apply pw_below_drewN | apply below_drew1) | exact HB.out)) hb); clear HB; have HB := n0_; clear n0_; (try clear hb); (try clear hb2); (try clear hk); (try clear hi)) | ((with_reducible refine gate_callee (f := 25) rfl ?_); refine goesL_ (some 27) rfl rfl Try.func25 (by kernel_rfl) rfl #[.slice A0 l0.length c0] rfl (by (try simp only [List.map_toArray, List.map_cons, List.map_nil]); first | done | rfl | (simp only [List.length_drop, List.length_take]; rfl)) ?_; (with_reducible refine (magnetolaw04_levels.calls k _ _ l0 false _ ?side1 ?side2 A7.out).mono ?_); (case side1 => repeat (first | exact (Kd.C_below HR0.out HB.out) | (with_reducible refine Kd.C_alloc ?_ _) | (with_reducible refine Kd.C_drewN ?_ _) | (with_reducible refine Kd.C_drew ?_))); (case side2 => exact HC0.out); rintro e w' ⟨rfl, ⟨nd, rfl⟩⟩; refine ⟨_, rfl, ?_⟩) | (go_at_call 19; (with_reducible refine (magnetolaw04_awake.calls k  t422 _ A43.out).mono ?_); rintro e w46 ⟨rfl, hb⟩; have n0_ := Aside0.mk (below_step (by repeat (first | (with_reducible first | exact HB.out | apply below_alloc | apply pw_below_drewN | apply below_drew1) | exact HB.out)) hb); clear HB; have HB := n0_; clear n0_; (try clear hb); (try clear hb2); (try clear hk); (try clear hi)))
        go_ret
        exact ⟨by first | rfl | (simp [errW_none, errW_some] <;> rfl) | (simp [*, errW_none, errW_some] <;> rfl), by repeat (first | (with_reducible first | exact HB.out | apply below_alloc | apply pw_below_drewN | apply below_drew1) | exact HB.out)⟩
       ·
        rw [if_neg c42] at H
        exact absurd H (by simp)
      ·
       rw [if_neg c41] at H
       exact absurd H (by simp)
     ·
      rw [if_neg c40] at H
      exact absurd H (by simp)
    ·
     rw [if_neg c39] at H
     exact absurd H (by simp)
   ·
    rw [if_neg c38] at H
    exact absurd H (by simp)

/-- THE ONE PURE STATEMENT of magnetolaw04_FieldNexts: yours. -/
def magnetolaw04_FieldNexts.Pure : Prop := ∀ (l0 : List Int), l0.length ≤ maxLen → l0.length * 8 ≤ 140737488351232 → (∀ x ∈ l0, (Lit.int .i64 x).wf = true) → ∃ k, magnetolaw04_FieldNexts.f k l0 = some true
theorem magnetolaw04_FieldNexts.walk (P : magnetolaw04_FieldNexts.Pure) (a0 : Option Addr) (len0 cap0 : Nat) (z0 : List Int) (w : World) (w0 : (a0 = none ∧ len0 = 0 ∧ cap0 = 0 ∧ z0 = []) ∨ ∃ x, a0 = some x ∧ len0 ≤ cap0 ∧ cap0 ≤ maxLen ∧ z0.length = cap0 ∧ (∀ i, i < z0.length → w.cell? (x.add i) = some (.int .i64 (z0.getD i 0))) ∧ ∀ n ∈ z0, (Lit.int .i64 n).wf = true) (y0 : len0 * 8 ≤ 140737488351232) :
  Calls Try.prog 4 #[.slice a0 len0 cap0] w fun e w' => e = .returned (.bool true) ∧ Below w.heap.size w w' := by
 obtain ⟨l0, rfl, hr0, hm0, hw0, hc0⟩ := ReadsInt.ofRowC w0
 obtain ⟨k, h⟩ := P l0 hm0 y0 hw0
 refine (magnetolaw04_FieldNexts.calls k _ _ l0 true w (Kd.C_of_reads (d := (0 : Int)) (h1 := fun _ => rfl) hr0) hc0 h).mono ?_
 rintro e w' ⟨rfl, hd⟩
 exact ⟨rfl, hd⟩

end Go.Proofs.Ytakemodmdhglnaa.PA
