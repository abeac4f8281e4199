/- Functions of the program, in plain Lean, and their walks (printed; half the indent). Conditions: none. -/
-- PRINTED by print.py (a twelfth state) out of the translation. Not trusted: Lean checks it.
import Derived.Test.YtipflkbpjnacnaaPAx0
import Derived.Test.YtipflkbpjnacnaaPAx1
import Derived.Test.YtipflkbpjnacnaaPAx4
import Derived.Test.YtipflkbpjnacnaaPAx6
namespace Go.Proofs.Ytipflkbpjnacnaa.PA
open Go.RowKit Go.Proofs.YtipflkbpjnacnaaW.PrintWords Go.Proofs.YtipflkbpjnacnaaW.PrintLast Go.Proofs.YtipflkbpjnacnaaW.PrintMore
attribute [local go_sem] max2_int min2_int max_two min_two max_three min_three max_four min_four   -- for this text's walks alone
set_option linter.unusedVariables false
set_option linter.unusedSimpArgs false

/-! ### magnetolaw02_Crc15Steps: function 4 -/
mutual
def magnetolaw02_Crc15Steps.j0 : Nat → Int → Int → Int → Int → List Int → Int → Bool → Option (Bool)
 | 0, _, _, _, _, _, _, _ => none
 | k + 1, x0, x1, x5, x6, x7, x8, x25 => if x25 = true then (if x5 = 0 then (if x6 = 10 then (if (x7.length : Int) = 0 then (if x8 = 10 then ((magnetolaw02_awake.f).bind fun t195 => (some t195)) else (none)) else (none)) else (none)) else (none)) else (if x8 = 0 then ((magnetoref02_Of.f k x0).bind fun t196 => ((magnetolaw02_ints.f k x7 t196).bind fun t199 => (magnetolaw02_Crc15Steps.j1 k x0 x1 x5 x6 (!t199)))) else (none))
def magnetolaw02_Crc15Steps.j1 : Nat → Int → Int → Int → Int → Bool → Option (Bool)
 | 0, _, _, _, _, _ => none
 | k + 1, x0, x1, x5, x6, x52 => if x52 = true then (none) else (if x1 = 0 then (magnetolaw02_Crc15Steps.j2 k x0 x1 x5 x6 false) else (magnetolaw02_Crc15Steps.j2 k x0 x1 x5 x6 (x1 != 1)))
def magnetolaw02_Crc15Steps.j2 : Nat → Int → Int → Int → Int → Bool → Option (Bool)
 | 0, _, _, _, _, _ => none
 | k + 1, x0, x1, x5, x6, x58 => if x58 = true then (if x5 = 0 then (if x6 = 10 then ((magnetolaw02_awake.f).bind fun t200 => (some t200)) else (none)) else (none)) else ((magnetoref02_Of.f k x0).bind fun t201 => ((magnetoref02_Behind.f k t201 x1).bind fun t204 => ((magnetoref02_Value.f k t204).bind fun t207 => (if x5 = t207 then (if x6 = 0 then ((magnetolaw02_awake.f).bind fun t208 => (some t208)) else (none)) else (none)))))
end
def magnetolaw02_Crc15Steps.f (k : Nat) (a0 : Int) (a1 : Int) : Option (Bool) := (crc15_Step.f a0 a1).bind fun bt189 => ((crc15_Bits.f k a0).bind fun bt191 => (if a0 < 0 then (magnetolaw02_Crc15Steps.j0 k a0 a1 bt189.1 bt189.2 bt191.1 bt191.2 true) else (magnetolaw02_Crc15Steps.j0 k a0 a1 bt189.1 bt189.2 bt191.1 bt191.2 (decide (a0 > 32767)))))
theorem magnetolaw02_Crc15Steps.mono_l : ∀ k, (∀ y0 y1 y2 y3 y4 y5 y6, LeO (magnetolaw02_Crc15Steps.j0 k y0 y1 y2 y3 y4 y5 y6) (magnetolaw02_Crc15Steps.j0 (k + 1) y0 y1 y2 y3 y4 y5 y6)) ∧ (∀ y0 y1 y2 y3 y4, LeO (magnetolaw02_Crc15Steps.j1 k y0 y1 y2 y3 y4) (magnetolaw02_Crc15Steps.j1 (k + 1) y0 y1 y2 y3 y4)) ∧ (∀ y0 y1 y2 y3 y4, LeO (magnetolaw02_Crc15Steps.j2 k y0 y1 y2 y3 y4) (magnetolaw02_Crc15Steps.j2 (k + 1) y0 y1 y2 y3 y4))
 | 0 => ⟨fun _ _ _ _ _ _ _ r h => by simp [magnetolaw02_Crc15Steps.j0] at h, fun _ _ _ _ _ r h => by simp [magnetolaw02_Crc15Steps.j1] at h, fun _ _ _ _ _ r h => by simp [magnetolaw02_Crc15Steps.j2] at h⟩
 | k + 1 => by
  obtain ⟨ih0, ih1, ih2⟩ := magnetolaw02_Crc15Steps.mono_l k
  refine ⟨?_, ?_, ?_⟩
  ·
   intro y0 y1 y2 y3 y4 y5 y6
   unfold magnetolaw02_Crc15Steps.j0
   repeat' first
   | (with_reducible exact ih0 _ _ _ _ _ _ _)
   | (with_reducible exact ih1 _ _ _ _ _)
   | (with_reducible exact ih2 _ _ _ _ _)
   | (with_reducible exact crc15_Bits.mono _ _)
   | (with_reducible exact magnetolaw02_ints.mono _ _ _)
   | (with_reducible exact magnetoref02_Behind.mono _ _ _)
   | (with_reducible exact magnetoref02_Of.mono _ _)
   | (with_reducible exact magnetoref02_Value.mono _ _)
   | (with_reducible exact LeO.refl _)
   | (with_reducible exact LeO.none _)
   | (with_reducible refine LeO.ite ?_ ?_)
   | (with_reducible refine LeO.bind ?_ (fun _ => ?_))
   | exact ih0 _ _ _ _ _ _ _
   | exact ih1 _ _ _ _ _
   | exact ih2 _ _ _ _ _
   | exact crc15_Bits.mono _ _
   | exact magnetolaw02_ints.mono _ _ _
   | exact magnetoref02_Behind.mono _ _ _
   | exact magnetoref02_Of.mono _ _
   | exact magnetoref02_Value.mono _ _
   | exact LeO.none _
   | refine LeO.ite ?_ ?_
   | refine LeO.bind ?_ (fun _ => ?_)
  ·
   intro y0 y1 y2 y3 y4
   unfold magnetolaw02_Crc15Steps.j1
   repeat' first
   | (with_reducible exact ih0 _ _ _ _ _ _ _)
   | (with_reducible exact ih1 _ _ _ _ _)
   | (with_reducible exact ih2 _ _ _ _ _)
   | (with_reducible exact crc15_Bits.mono _ _)
   | (with_reducible exact magnetolaw02_ints.mono _ _ _)
   | (with_reducible exact magnetoref02_Behind.mono _ _ _)
   | (with_reducible exact magnetoref02_Of.mono _ _)
   | (with_reducible exact magnetoref02_Value.mono _ _)
   | (with_reducible exact LeO.refl _)
   | (with_reducible exact LeO.none _)
   | (with_reducible refine LeO.ite ?_ ?_)
   | (with_reducible refine LeO.bind ?_ (fun _ => ?_))
   | exact ih0 _ _ _ _ _ _ _
   | exact ih1 _ _ _ _ _
   | exact ih2 _ _ _ _ _
   | exact crc15_Bits.mono _ _
   | exact magnetolaw02_ints.mono _ _ _
   | exact magnetoref02_Behind.mono _ _ _
   | exact magnetoref02_Of.mono _ _
   | exact magnetoref02_Value.mono _ _
   | exact LeO.none _
   | refine LeO.ite ?_ ?_
   | refine LeO.bind ?_ (fun _ => ?_)
  ·
   intro y0 y1 y2 y3 y4
   unfold magnetolaw02_Crc15Steps.j2
   repeat' first
   | (with_reducible exact ih0 _ _ _ _ _ _ _)
   | (with_reducible exact ih1 _ _ _ _ _)
   | (with_reducible exact ih2 _ _ _ _ _)
   | (with_reducible exact crc15_Bits.mono _ _)
   | (with_reducible exact magnetolaw02_ints.mono _ _ _)
   | (with_reducible exact magnetoref02_Behind.mono _ _ _)
   | (with_reducible exact magnetoref02_Of.mono _ _)
   | (with_reducible exact magnetoref02_Value.mono _ _)
   | (with_reducible exact LeO.refl _)
   | (with_reducible exact LeO.none _)
   | (with_reducible refine LeO.ite ?_ ?_)
   | (with_reducible refine LeO.bind ?_ (fun _ => ?_))
   | exact ih0 _ _ _ _ _ _ _
   | exact ih1 _ _ _ _ _
   | exact ih2 _ _ _ _ _
   | exact crc15_Bits.mono _ _
   | exact magnetolaw02_ints.mono _ _ _
   | exact magnetoref02_Behind.mono _ _ _
   | exact magnetoref02_Of.mono _ _
   | exact magnetoref02_Value.mono _ _
   | exact LeO.none _
   | refine LeO.ite ?_ ?_
   | refine LeO.bind ?_ (fun _ => ?_)
theorem magnetolaw02_Crc15Steps.mono : ∀ a0 a1 k, LeO (magnetolaw02_Crc15Steps.f k a0 a1) (magnetolaw02_Crc15Steps.f (k + 1) a0 a1) := by
 intro a0 a1 k
 obtain ⟨ih0, ih1, ih2⟩ := magnetolaw02_Crc15Steps.mono_l k
 unfold magnetolaw02_Crc15Steps.f
 repeat' first
   | (with_reducible exact ih0 _ _ _ _ _ _ _)
   | (with_reducible exact ih1 _ _ _ _ _)
   | (with_reducible exact ih2 _ _ _ _ _)
   | (with_reducible exact crc15_Bits.mono _ _)
   | (with_reducible exact magnetolaw02_ints.mono _ _ _)
   | (with_reducible exact magnetoref02_Behind.mono _ _ _)
   | (with_reducible exact magnetoref02_Of.mono _ _)
   | (with_reducible exact magnetoref02_Value.mono _ _)
   | (with_reducible exact LeO.refl _)
   | (with_reducible exact LeO.none _)
   | (with_reducible refine LeO.ite ?_ ?_)
   | (with_reducible refine LeO.bind ?_ (fun _ => ?_))
   | exact ih0 _ _ _ _ _ _ _
   | exact ih1 _ _ _ _ _
   | exact ih2 _ _ _ _ _
   | exact crc15_Bits.mono _ _
   | exact magnetolaw02_ints.mono _ _ _
   | exact magnetoref02_Behind.mono _ _ _
   | exact magnetoref02_Of.mono _ _
   | exact magnetoref02_Value.mono _ _
   | exact LeO.none _
   | refine LeO.ite ?_ ?_
   | refine LeO.bind ?_ (fun _ => ?_)
set_option maxHeartbeats 8000000 in
set_option maxRecDepth 100000 in
theorem magnetolaw02_Crc15Steps.calls (k : Nat) (a0 : Int) (a1 : Int) (r : Bool) (w : World) (h : magnetolaw02_Crc15Steps.f k a0 a1 = some r) :
  Calls Try.prog 4 #[.int .i64 a0, .int .i64 a1] w fun e w' => e = .returned (.bool r) ∧ Below w.heap.size w w' := by
 have HB := Aside0.mk (Below.refl w.heap.size w)
 have H : ((crc15_Step.f a0 a1).bind fun bt189 => ((crc15_Bits.f k a0).bind fun bt191 => (if a0 < 0 then (magnetolaw02_Crc15Steps.j0 k a0 a1 bt189.1 bt189.2 bt191.1 bt191.2 true) else (magnetolaw02_Crc15Steps.j0 k a0 a1 bt189.1 bt189.2 bt191.1 bt191.2 (decide (a0 > 32767)))))) = some r := h
 clear h
 replace H := Option.bind_eq_some_iff.mp H
 obtain ⟨⟨t189, t190⟩, A30, H⟩ := H
 replace H : ((crc15_Bits.f k a0).bind fun bt191 => (if a0 < 0 then (magnetolaw02_Crc15Steps.j0 k a0 a1 t189 t190 bt191.1 bt191.2 true) else (magnetolaw02_Crc15Steps.j0 k a0 a1 t189 t190 bt191.1 bt191.2 (decide (a0 > 32767))))) = some r := H
 have A3 := Aside0.mk A30
 clear A30
 replace H := Option.bind_eq_some_iff.mp H
 obtain ⟨⟨t191, t192⟩, A40, H⟩ := H
 replace H : (if a0 < 0 then (magnetolaw02_Crc15Steps.j0 k a0 a1 t189 t190 t191 t192 true) else (magnetolaw02_Crc15Steps.j0 k a0 a1 t189 t190 t191 t192 (decide (a0 > 32767)))) = some r := H
 have A4 := Aside0.mk A40
 clear A40
 have HC5 := Aside0.mk H
 clear H
 go_enter Try.func4, Try.ntmps4
 go_upto_region 3 with (first | ((with_reducible refine gate_callee (f := 23) rfl ?_); refine goesL_ (some 12) rfl rfl Try.func23 (by kernel_rfl) rfl #[.int .i64 a0, .int .i64 a1] rfl (by (try simp only [List.map_toArray, List.map_cons, List.map_nil]); first | done | rfl | (simp only [List.length_drop, List.length_take]; rfl)) ?_; (with_reducible refine (crc15_Step.calls a0 a1 t189 t190 _ A3.out).mono ?_); rintro e w6 ⟨rfl, hb⟩; refine ⟨_, rfl, ?_⟩; have n0_ := Aside0.mk (below_step (by repeat (first | (with_reducible first | exact HB.out | apply below_alloc | apply pw_below_drewN | apply below_drew1) | exact HB.out)) hb); clear HB; have HB := n0_; clear n0_; (try clear hb); (try clear hb2); (try clear hk); (try clear hi)) | ((with_reducible refine gate_callee (f := 24) rfl ?_); refine goesL_ (some 17) rfl rfl Try.func24 (by kernel_rfl) rfl #[.int .i64 a0] rfl (by (try simp only [List.map_toArray, List.map_cons, List.map_nil]); first | done | rfl | (simp only [List.length_drop, List.length_take]; rfl)) ?_; (with_reducible refine (crc15_Bits.calls k a0 t191 t192 _ A4.out).mono ?_); rintro e w7 ⟨v193, rfl, ho0, hb⟩; refine ⟨_, rfl, ?_⟩; have n0_ := Aside0.mk (Kd.R_lower ho0 (below_size (by repeat (first | (with_reducible first | exact HB.out | apply below_alloc | apply pw_below_drewN | apply below_drew1) | exact HB.out)))); have n1_ := Aside0.mk (below_step (by repeat (first | (with_reducible first | exact HB.out | apply below_alloc | apply pw_below_drewN | apply below_drew1) | exact HB.out)) hb); clear HB; have HO194 := n0_; have HB := n1_; clear n0_ n1_; (try clear hb); (try clear hb2); (try clear hk); (try clear hi); (try clear ho0)))
 (try simp only [Act.put, List.setIfInBounds_toArray, List.set_cons_zero, List.set_cons_succ])
 go_cut [25] (fun v25 wc => ∃ (kq : Nat) (x25_4 : Bool), v25 = .bool x25_4 ∧ Aside0 (magnetolaw02_Crc15Steps.j0 kq a0 a1 t189 t190 t191 t192 x25_4 = some r) ∧ Aside0 (kq ≤ k) ∧ Aside0 (Kd.R (Kd.int .i64) 3 wc w.heap.size (fun _ => True) v193 t191) ∧ Aside0 (Below w.heap.size w wc))
 case first =>
  have H := HC5.out
  clear HC5
  by_cases c8 : a0 < 0
  ·
   rw [if_pos c8] at H
   have c8b0 : decide (a0 < 0) = true := decide_eq_true c8
   clear c8
   (first | rw [c8b0] | (simp only [i64_w, i32_w]; rw [c8b0]) | skip)
   have H' := Aside0.mk H
   clear H
   go_wp2
   go_meet
   case rel => exact ⟨_, (true), (by first | rfl | (simp; done) | (simp [*]; done)), H', ⟨by first | omega | exact Nat.le_refl _⟩, ⟨by (with_reducible repeat (first | apply Kd.R_alloc | apply Kd.R_drewN | apply Kd.R_drew)); exact HO194.out⟩, ⟨by repeat (first | (with_reducible first | exact HB.out | apply below_alloc | apply pw_below_drewN | apply below_drew1) | exact HB.out)⟩⟩
  ·
   rw [if_neg c8] at H
   have c8b0 : decide (a0 < 0) = false := decide_eq_false c8
   clear c8
   (first | rw [c8b0] | (simp only [i64_w, i32_w]; rw [c8b0]) | skip)
   have H' := Aside0.mk H
   clear H
   go_wp2
   go_meet
   case rel => exact ⟨_, (decide (a0 > 32767)), (by first | rfl | (simp; done) | (simp [*]; done)), H', ⟨by first | omega | exact Nat.le_refl _⟩, ⟨by (with_reducible repeat (first | apply Kd.R_alloc | apply Kd.R_drewN | apply Kd.R_drew)); exact HO194.out⟩, ⟨by repeat (first | (with_reducible first | exact HB.out | apply below_alloc | apply pw_below_drewN | apply below_drew1) | exact HB.out)⟩⟩
 case rest =>
  clear HC5
  try clear c1
  try clear c2
  try clear p2
  try clear c4
  try clear c8
  try clear c8b0
  obtain ⟨kq, x25_4, rfl, HA, HJ4, HO_7, HB⟩ := hcut
  cases kq with
  | zero => exact absurd HA.out (by simp [magnetolaw02_Crc15Steps.j0])
  | succ kj4 =>
   have H := HA.out
   clear HA
   simp only [magnetolaw02_Crc15Steps.j0] at H
   by_cases c9 : x25_4 = true
   ·
    subst c9
    have H1 : (if t189 = 0 then (if t190 = 10 then (if (t191.length : Int) = 0 then (if t192 = 10 then ((magnetolaw02_awake.f).bind fun t195 => (some t195)) else (none)) else (none)) else (none)) else (none)) = some r := by rw [if_pos rfl] at H; exact H
    clear H
    have H := H1
    clear H1
    by_cases c10 : t189 = 0
    ·
     rw [if_pos c10] at H
     have c10b0 : (t189 == 0) = true := beq_iff_eq.mpr c10
     have c10b1 : (t189 != 0) = false := bne_eq_false_iff_eq.mpr c10
     clear c10
     by_cases c11 : t190 = 10
     ·
      rw [if_pos c11] at H
      have c11b0 : (t190 == 10) = true := beq_iff_eq.mpr c11
      have c11b1 : (t190 != 10) = false := bne_eq_false_iff_eq.mpr c11
      clear c11
      by_cases c12 : (t191.length : Int) = 0
      ·
       rw [if_pos c12] at H
       have c12b0 : ((t191.length : Int) == 0) = true := beq_iff_eq.mpr c12
       have c12b1 : ((t191.length : Int) != 0) = false := bne_eq_false_iff_eq.mpr c12
       clear c12
       by_cases c13 : t192 = 10
       ·
        rw [if_pos c13] at H
        have c13b0 : (t192 == 10) = true := beq_iff_eq.mpr c13
        have c13b1 : (t192 != 10) = false := bne_eq_false_iff_eq.mpr c13
        clear c13
        replace H := Option.bind_eq_some_iff.mp H
        obtain ⟨t195, A140, H⟩ := H
        replace H : (some t195) = some r := H
        have A14 := Aside0.mk A140
        clear A140
        obtain rfl := Option.some.inj H
        obtain ⟨Ao15, co15, eo15⟩ := Kd.R_slice HO_7.out
        subst eo15
        go_wp2_with (first | (go_at_call 21; (with_reducible refine (magnetolaw02_awake.calls  t195 _ A14.out).mono ?_); rintro e w16 ⟨rfl, hb⟩; have n0_ := Aside0.mk (Kd.R_below (by (with_reducible repeat (first | apply Kd.R_alloc | apply Kd.R_drewN | apply Kd.R_drew)); exact HO_7.out) hb); have n1_ := Aside0.mk (below_step (by repeat (first | (with_reducible first | exact HB.out | apply below_alloc | apply pw_below_drewN | apply below_drew1) | exact HB.out)) hb); clear HO_7; clear HB; have HO_7 := n0_; have HB := n1_; clear n0_ n1_; (try clear hb); (try clear hb2); (try clear hk); (try clear hi)))
        go_ret
        exact ⟨by first | rfl | (simp [errW_none, errW_some] <;> rfl) | (simp [*, errW_none, errW_some] <;> rfl), by repeat (first | (with_reducible first | exact HB.out | apply below_alloc | apply pw_below_drewN | apply below_drew1) | exact HB.out)⟩
       ·
        rw [if_neg c13] at H
        exact absurd H (by simp)
      ·
       rw [if_neg c12] at H
       exact absurd H (by simp)
     ·
      rw [if_neg c11] at H
      exact absurd H (by simp)
    ·
     rw [if_neg c10] at H
     exact absurd H (by simp)
   ·
    replace c9 := Bool.eq_false_iff.mpr c9
    subst c9
    have H1 : (if t192 = 0 then ((magnetoref02_Of.f kj4 a0).bind fun t196 => ((magnetolaw02_ints.f kj4 t191 t196).bind fun t199 => (magnetolaw02_Crc15Steps.j1 kj4 a0 a1 t189 t190 (!t199)))) else (none)) = some r := by rw [if_neg (show ¬ (false = true) by decide)] at H; exact H
    clear H
    have H := H1
    clear H1
    have HC17 := Aside0.mk H
    clear H
    go_upto_region 5 with (fail)
    go_cut [52] (fun v52 wc => ∃ (kq : Nat) (x52_16 : Bool), v52 = .bool x52_16 ∧ Aside0 (magnetolaw02_Crc15Steps.j1 kq a0 a1 t189 t190 x52_16 = some r) ∧ Aside0 (kq ≤ kj4) ∧ Aside0 (Below w.heap.size w wc))
    case first =>
     have H := HC17.out
     clear HC17
     by_cases c18 : t192 = 0
     ·
      rw [if_pos c18] at H
      have c18b0 : (t192 == 0) = true := beq_iff_eq.mpr c18
      have c18b1 : (t192 != 0) = false := bne_eq_false_iff_eq.mpr c18
      clear c18
      (first | rw [c18b0] | (simp only [i64_w, i32_w]; rw [c18b0]) | skip)
      replace H := Option.bind_eq_some_iff.mp H
      obtain ⟨t196, A190, H⟩ := H
      replace H : ((magnetolaw02_ints.f kj4 t191 t196).bind fun t199 => (magnetolaw02_Crc15Steps.j1 kj4 a0 a1 t189 t190 (!t199))) = some r := H
      have A19 := Aside0.mk A190
      clear A190
      replace H := Option.bind_eq_some_iff.mp H
      obtain ⟨t199, A200, H⟩ := H
      replace H : (magnetolaw02_Crc15Steps.j1 kj4 a0 a1 t189 t190 (!t199)) = some r := H
      have A20 := Aside0.mk A200
      clear A200
      have H' := Aside0.mk H
      clear H
      go_wp2_with (first | (go_at_call 26; (with_reducible refine (magnetoref02_Of.calls kj4 a0 t196 _ A19.out).mono ?_); rintro e w21 ⟨v197, rfl, ho0, hb⟩; have n0_ := Aside0.mk (Kd.R_elder' (by (with_reducible repeat (first | apply Kd.R_alloc | apply Kd.R_drewN | apply Kd.R_drew)); exact HO_7.out) (Kd.R_base ho0) hb); have n1_ := Aside0.mk (Kd.R_lower (Kd.R_new' ho0 (Kd.R_lt (by (with_reducible repeat (first | apply Kd.R_alloc | apply Kd.R_drewN | apply Kd.R_drew)); exact HO_7.out))) (below_size (by repeat (first | (with_reducible first | exact HB.out | apply below_alloc | apply pw_below_drewN | apply below_drew1) | exact HB.out)))); have n2_ := Aside0.mk (below_step (by repeat (first | (with_reducible first | exact HB.out | apply below_alloc | apply pw_below_drewN | apply below_drew1) | exact HB.out)) hb); clear HO_7; clear HB; have HO_7 := n0_; have HO198 := n1_; have HB := n2_; clear n0_ n1_ n2_; (try clear hb); (try clear hb2); (try clear hk); (try clear hi); (try clear ho0); obtain ⟨Ao22, co22, eo22⟩ := Kd.R_slice HO_7.out; subst eo22; obtain ⟨Ao23, co23, eo23⟩ := Kd.R_slice HO198.out; subst eo23) | (go_at_call 25; (with_reducible refine (magnetolaw02_ints.calls kj4 _ _ t191 _ _ t196 t199 _ ?side1 ?side2 ?side3 ?side4 A20.out).mono ?_); (case side1 => repeat (first | exact (Kd.R_reads' HO_7.out).2.2 | (with_reducible refine Kd.C_alloc ?_ _) | (with_reducible refine Kd.C_drewN ?_ _) | (with_reducible refine Kd.C_drew ?_))); (case side2 => exact (Kd.R_reads' HO_7.out).2.1); (case side3 => repeat (first | exact (Kd.R_reads' HO198.out).2.2 | (with_reducible refine Kd.C_alloc ?_ _) | (with_reducible refine Kd.C_drewN ?_ _) | (with_reducible refine Kd.C_drew ?_))); (case side4 => exact (Kd.R_reads' HO198.out).2.1); rintro e w' ⟨rfl, ⟨nd, rfl⟩⟩))
      go_meet
      case rel => exact ⟨_, (!t199), (by first | rfl | (simp; done) | (simp [*]; done)), H', ⟨by have := HJ4.out; first | omega | exact Nat.le_refl _⟩, ⟨by repeat (first | (with_reducible first | exact HB.out | apply below_alloc | apply pw_below_drewN | apply below_drew1) | exact HB.out)⟩⟩
     ·
      rw [if_neg c18] at H
      exact absurd H (by simp)
    case rest =>
     clear HC17
     try clear c1
     try clear c2
     try clear p2
     try clear c4
     try clear c8
     try clear c8b0
     try clear c9
     try clear c10
     try clear c10b0
     try clear c10b1
     try clear c11
     try clear c11b0
     try clear c11b1
     try clear c12
     try clear c12b0
     try clear c12b1
     try clear c13
     try clear c13b0
     try clear c13b1
     try clear c15
     try clear c18
     try clear c18b0
     try clear c18b1
     try clear c23
     try clear p2
     obtain ⟨kq, x52_16, rfl, HA, HJ16, HB⟩ := hcut
     cases kq with
     | zero => exact absurd HA.out (by simp [magnetolaw02_Crc15Steps.j1])
     | succ kj16 =>
      have H := HA.out
      clear HA
      simp only [magnetolaw02_Crc15Steps.j1] at H
      by_cases c24 : x52_16 = true
      ·
       subst c24
       have H1 : (none) = some r := by rw [if_pos rfl] at H; exact H
       clear H
       have H := H1
       clear H1
       exact absurd H (by simp)
      ·
       replace c24 := Bool.eq_false_iff.mpr c24
       subst c24
       have H1 : (if a1 = 0 then (magnetolaw02_Crc15Steps.j2 kj16 a0 a1 t189 t190 false) else (magnetolaw02_Crc15Steps.j2 kj16 a0 a1 t189 t190 (a1 != 1))) = some r := by rw [if_neg (show ¬ (false = true) by decide)] at H; exact H
       clear H
       have H := H1
       clear H1
       have HC25 := Aside0.mk H
       clear H
       go_upto_region 7 with (fail)
       go_cut [58] (fun v58 wc => ∃ (kq : Nat) (x58_24 : Bool), v58 = .bool x58_24 ∧ Aside0 (magnetolaw02_Crc15Steps.j2 kq a0 a1 t189 t190 x58_24 = some r) ∧ Aside0 (kq ≤ kj16) ∧ Aside0 (Below w.heap.size w wc))
       case first =>
        have H := HC25.out
        clear HC25
        by_cases c26 : a1 = 0
        ·
         rw [if_pos c26] at H
         have c26b0 : (a1 == 0) = true := beq_iff_eq.mpr c26
         have c26b1 : (a1 != 0) = false := bne_eq_false_iff_eq.mpr c26
         clear c26
         (first | rw [c26b0] | (simp only [i64_w, i32_w]; rw [c26b0]) | skip)
         have H' := Aside0.mk H
         clear H
         go_wp2
         go_meet
         case rel => exact ⟨_, (false), (by first | rfl | (simp; done) | (simp [*]; done)), H', ⟨by have := HJ4.out; have := HJ16.out; first | omega | exact Nat.le_refl _⟩, ⟨by repeat (first | (with_reducible first | exact HB.out | apply below_alloc | apply pw_below_drewN | apply below_drew1) | exact HB.out)⟩⟩
        ·
         rw [if_neg c26] at H
         have c26b0 : (a1 == 0) = false := beq_eq_false_iff_ne.mpr c26
         have c26b1 : (a1 != 0) = true := bne_iff_ne.mpr c26
         (first | rw [c26b0] | (simp only [i64_w, i32_w]; rw [c26b0]) | skip)
         have H' := Aside0.mk H
         clear H
         go_wp2
         go_meet
         case rel => exact ⟨_, ((a1 != 1)), (by first | rfl | (simp; done) | (simp [*]; done)), H', ⟨by have := HJ4.out; have := HJ16.out; first | omega | exact Nat.le_refl _⟩, ⟨by repeat (first | (with_reducible first | exact HB.out | apply below_alloc | apply pw_below_drewN | apply below_drew1) | exact HB.out)⟩⟩
       case rest =>
        clear HC25
        try clear c1
        try clear c2
        try clear p2
        try clear c4
        try clear c8
        try clear c8b0
        try clear c9
        try clear c10
        try clear c10b0
        try clear c10b1
        try clear c11
        try clear c11b0
        try clear c11b1
        try clear c12
        try clear c12b0
        try clear c12b1
        try clear c13
        try clear c13b0
        try clear c13b1
        try clear c15
        try clear c18
        try clear c18b0
        try clear c18b1
        try clear c23
        try clear c24
        try clear c26
        try clear c26b0
        try clear c26b1
        try clear p2
        obtain ⟨kq, x58_24, rfl, HA, HJ24, HB⟩ := hcut
        cases kq with
        | zero => exact absurd HA.out (by simp [magnetolaw02_Crc15Steps.j2])
        | succ kj24 =>
         have H := HA.out
         clear HA
         simp only [magnetolaw02_Crc15Steps.j2] at H
         by_cases c27 : x58_24 = true
         ·
          subst c27
          have H1 : (if t189 = 0 then (if t190 = 10 then ((magnetolaw02_awake.f).bind fun t200 => (some t200)) else (none)) else (none)) = some r := by rw [if_pos rfl] at H; exact H
          clear H
          have H := H1
          clear H1
          by_cases c28 : t189 = 0
          ·
           rw [if_pos c28] at H
           have c28b0 : (t189 == 0) = true := beq_iff_eq.mpr c28
           have c28b1 : (t189 != 0) = false := bne_eq_false_iff_eq.mpr c28
           clear c28
           by_cases c29 : t190 = 10
           ·
            rw [if_pos c29] at H
            have c29b0 : (t190 == 10) = true := beq_iff_eq.mpr c29
            have c29b1 : (t190 != 10) = false := bne_eq_false_iff_eq.mpr c29
            clear c29
            replace H := Option.bind_eq_some_iff.mp H
            obtain ⟨t200, A300, H⟩ := H
            replace H : (some t200) = some r := H
            have A30 := Aside0.mk A300
            clear A300
            obtain rfl := Option.some.inj H
            go_wp2_with (first | (go_at_call 21; (with_reducible refine (magnetolaw02_awake.calls  t200 _ A30.out).mono ?_); rintro e w31 ⟨rfl, hb⟩; have n0_ := Aside0.mk (below_step (by repeat (first | (with_reducible first | exact HB.out | apply below_alloc | apply pw_below_drewN | apply below_drew1) | exact HB.out)) hb); clear HB; have HB := n0_; clear n0_; (try clear hb); (try clear hb2); (try clear hk); (try clear hi)))
            go_ret
            exact ⟨by first | rfl | (simp [errW_none, errW_some] <;> rfl) | (simp [*, errW_none, errW_some] <;> rfl), by repeat (first | (with_reducible first | exact HB.out | apply below_alloc | apply pw_below_drewN | apply below_drew1) | exact HB.out)⟩
           ·
            rw [if_neg c29] at H
            exact absurd H (by simp)
          ·
           rw [if_neg c28] at H
           exact absurd H (by simp)
         ·
          replace c27 := Bool.eq_false_iff.mpr c27
          subst c27
          have H1 : ((magnetoref02_Of.f kj24 a0).bind fun t201 => ((magnetoref02_Behind.f kj24 t201 a1).bind fun t204 => ((magnetoref02_Value.f kj24 t204).bind fun t207 => (if t189 = t207 then (if t190 = 0 then ((magnetolaw02_awake.f).bind fun t208 => (some t208)) else (none)) else (none))))) = some r := by rw [if_neg (show ¬ (false = true) by decide)] at H; exact H
          clear H
          have H := H1
          clear H1
          replace H := Option.bind_eq_some_iff.mp H
          obtain ⟨t201, A320, H⟩ := H
          replace H : ((magnetoref02_Behind.f kj24 t201 a1).bind fun t204 => ((magnetoref02_Value.f kj24 t204).bind fun t207 => (if t189 = t207 then (if t190 = 0 then ((magnetolaw02_awake.f).bind fun t208 => (some t208)) else (none)) else (none)))) = some r := H
          have A32 := Aside0.mk A320
          clear A320
          replace H := Option.bind_eq_some_iff.mp H
          obtain ⟨t204, A330, H⟩ := H
          replace H : ((magnetoref02_Value.f kj24 t204).bind fun t207 => (if t189 = t207 then (if t190 = 0 then ((magnetolaw02_awake.f).bind fun t208 => (some t208)) else (none)) else (none))) = some r := H
          have A33 := Aside0.mk A330
          clear A330
          replace H := Option.bind_eq_some_iff.mp H
          obtain ⟨t207, A340, H⟩ := H
          replace H : (if t189 = t207 then (if t190 = 0 then ((magnetolaw02_awake.f).bind fun t208 => (some t208)) else (none)) else (none)) = some r := H
          have A34 := Aside0.mk A340
          clear A340
          by_cases c35 : t189 = t207
          ·
           rw [if_pos c35] at H
           have c35b0 : (t189 == t207) = true := beq_iff_eq.mpr c35
           have c35b1 : (t189 != t207) = false := bne_eq_false_iff_eq.mpr c35
           clear c35
           by_cases c36 : t190 = 0
           ·
            rw [if_pos c36] at H
            have c36b0 : (t190 == 0) = true := beq_iff_eq.mpr c36
            have c36b1 : (t190 != 0) = false := bne_eq_false_iff_eq.mpr c36
            clear c36
            replace H := Option.bind_eq_some_iff.mp H
            obtain ⟨t208, A370, H⟩ := H
            replace H : (some t208) = some r := H
            have A37 := Aside0.mk A370
            clear A370
            obtain rfl := Option.some.inj H
            go_wp2_with (first | ((with_reducible refine gate_callee (f := 26) rfl ?_); refine goesL_ (some 70) rfl rfl Try.func26 (by kernel_rfl) rfl #[.int .i64 a0] rfl (by (try simp only [List.map_toArray, List.map_cons, List.map_nil]); first | done | rfl | (simp only [List.length_drop, List.length_take]; rfl)) ?_; (with_reducible refine (magnetoref02_Of.calls kj24 a0 t201 _ A32.out).mono ?_); rintro e w38 ⟨v202, rfl, ho0, hb⟩; refine ⟨_, rfl, ?_⟩; have n0_ := Aside0.mk (Kd.R_lower ho0 (below_size (by repeat (first | (with_reducible first | exact HB.out | apply below_alloc | apply pw_below_drewN | apply below_drew1) | exact HB.out)))); have n1_ := Aside0.mk (below_step (by repeat (first | (with_reducible first | exact HB.out | apply below_alloc | apply pw_below_drewN | apply below_drew1) | exact HB.out)) hb); clear HB; have HO203 := n0_; have HB := n1_; clear n0_ n1_; (try clear hb); (try clear hb2); (try clear hk); (try clear hi); (try clear ho0); obtain ⟨Ao39, co39, eo39⟩ := Kd.R_slice HO203.out; subst eo39) | ((with_reducible refine gate_callee (f := 28) rfl ?_); refine goesL_ (some 72) rfl rfl Try.func28 (by kernel_rfl) rfl #[.slice Ao39 t201.length co39, .int .i64 a1] rfl (by (try simp only [List.map_toArray, List.map_cons, List.map_nil]); first | done | rfl | (simp only [List.length_drop, List.length_take]; rfl)) ?_; (with_reducible refine (magnetoref02_Behind.calls kj24 _ _ t201 a1 t204 _ ?side1 ?side2 A33.out).mono ?_); (case side1 => repeat (first | exact (Kd.R_reads' HO203.out).2.2 | (with_reducible refine Kd.C_alloc ?_ _) | (with_reducible refine Kd.C_drewN ?_ _) | (with_reducible refine Kd.C_drew ?_))); (case side2 => exact (Kd.R_reads' HO203.out).2.1); rintro e w40 ⟨v205, rfl, ho0, hb⟩; refine ⟨_, rfl, ?_⟩; have n0_ := Aside0.mk (Kd.R_elder' (by (with_reducible repeat (first | apply Kd.R_alloc | apply Kd.R_drewN | apply Kd.R_drew)); exact HO203.out) (Kd.R_base ho0) hb); have n1_ := Aside0.mk (Kd.R_lower (Kd.R_new' ho0 (Kd.R_lt (by (with_reducible repeat (first | apply Kd.R_alloc | apply Kd.R_drewN | apply Kd.R_drew)); exact HO203.out))) (below_size (by repeat (first | (with_reducible first | exact HB.out | apply below_alloc | apply pw_below_drewN | apply below_drew1) | exact HB.out)))); have n2_ := Aside0.mk (below_step (by repeat (first | (with_reducible first | exact HB.out | apply below_alloc | apply pw_below_drewN | apply below_drew1) | exact HB.out)) hb); clear HO203; clear HB; have HO203 := n0_; have HO206 := n1_; have HB := n2_; clear n0_ n1_ n2_; (try clear hb); (try clear hb2); (try clear hk); (try clear hi); (try clear ho0); obtain ⟨Ao41, co41, eo41⟩ := Kd.R_slice HO206.out; subst eo41) | ((with_reducible refine gate_callee (f := 27) rfl ?_); refine goesL_ (some 73) rfl rfl Try.func27 (by kernel_rfl) rfl #[.slice Ao41 t204.length co41] rfl (by (try simp only [List.map_toArray, List.map_cons, List.map_nil]); first | done | rfl | (simp only [List.length_drop, List.length_take]; rfl)) ?_; (with_reducible refine (magnetoref02_Value.calls kj24 _ _ t204 t207 _ ?side1 ?side2 A34.out).mono ?_); (case side1 => repeat (first | exact (Kd.R_reads' HO206.out).2.2 | (with_reducible refine Kd.C_alloc ?_ _) | (with_reducible refine Kd.C_drewN ?_ _) | (with_reducible refine Kd.C_drew ?_))); (case side2 => exact (Kd.R_reads' HO206.out).2.1); rintro e w' ⟨rfl, ⟨nd, rfl⟩⟩; refine ⟨_, rfl, ?_⟩) | (go_at_call 21; (with_reducible refine (magnetolaw02_awake.calls  t208 _ A37.out).mono ?_); rintro e w42 ⟨rfl, hb⟩; have n0_ := Aside0.mk (Kd.R_below (by (with_reducible repeat (first | apply Kd.R_alloc | apply Kd.R_drewN | apply Kd.R_drew)); exact HO203.out) hb); have n1_ := Aside0.mk (Kd.R_below (by (with_reducible repeat (first | apply Kd.R_alloc | apply Kd.R_drewN | apply Kd.R_drew)); exact HO206.out) hb); have n2_ := Aside0.mk (below_step (by repeat (first | (with_reducible first | exact HB.out | apply below_alloc | apply pw_below_drewN | apply below_drew1) | exact HB.out)) hb); clear HO203; clear HO206; clear HB; have HO203 := n0_; have HO206 := n1_; have HB := n2_; clear n0_ n1_ n2_; (try clear hb); (try clear hb2); (try clear hk); (try clear hi)))
            go_ret
            exact ⟨by first | rfl | (simp [errW_none, errW_some] <;> rfl) | (simp [*, errW_none, errW_some] <;> rfl), by repeat (first | (with_reducible first | exact HB.out | apply below_alloc | apply pw_below_drewN | apply below_drew1) | exact HB.out)⟩
           ·
            rw [if_neg c36] at H
            exact absurd H (by simp)
          ·
           rw [if_neg c35] at H
           exact absurd H (by simp)

/-- THE ONE PURE STATEMENT of magnetolaw02_Crc15Steps: yours. -/
def magnetolaw02_Crc15Steps.Pure : Prop := ∀ (a0 : Int) (a1 : Int), (Lit.int .i64 a0).wf = true → (Lit.int .i64 a1).wf = true → ∃ k, magnetolaw02_Crc15Steps.f k a0 a1 = some true
theorem magnetolaw02_Crc15Steps.walk (P : magnetolaw02_Crc15Steps.Pure) (a0 : Int) (a1 : Int) (w : World) (w0 : (Lit.int .i64 a0).wf = true) (w1 : (Lit.int .i64 a1).wf = true) :
  Calls Try.prog 4 #[.int .i64 a0, .int .i64 a1] w fun e w' => e = .returned (.bool true) ∧ Below w.heap.size w w' := by
 obtain ⟨k, h⟩ := P a0 a1 w0 w1
 refine (magnetolaw02_Crc15Steps.calls k a0 a1 true w h).mono ?_
 rintro e w' ⟨rfl, hd⟩
 exact ⟨rfl, hd⟩

/-! ### bits_Text: function 31 -/
def bits_Text.l0 : Nat → List Int → List Int → Int → Int → Option (ByteArray × Int × Int)
 | 0, _, _, _, _ => none
 | k + 1, x6, x17, x18, x19 => if x19 < x18 then (if 0 ≤ x19 then (if x19 < (x17.length : Int) then (if x19 < (x6.length : Int) then (bits_Text.l0 k (x6.set (x19 : Int).toNat ((wrap64 (48 + (rd x17 x19))) % 256)) x17 x18 (wrap64 (x19 + 1))) else (none)) else (none)) else (none)) else (some (strOfNums x6, 0, 0))
def bits_Text.f (k : Nat) (l0 : List Int) : Option (ByteArray × Int × Int) := (bits_Check.f l0).bind fun t209 => (if t209 ≥ 0 then (some ((⟨#[]⟩ : ByteArray), t209, 10)) else (if 0 ≤ (l0.length : Int) then (if ((l0.length : Int) : Int).toNat ≤ 281474976710656 then (bits_Text.l0 k (List.replicate ((l0.length : Int) : Int).toNat 0) l0 (l0.length : Int) 0) else (none)) else (none)))
theorem bits_Text.mono_l : ∀ k, (∀ y0 y1 y2 y3, LeO (bits_Text.l0 k y0 y1 y2 y3) (bits_Text.l0 (k + 1) y0 y1 y2 y3))
 | 0 => fun _ _ _ _ r h => by simp [bits_Text.l0] at h
 | k + 1 => by
  have ih0 := bits_Text.mono_l k
  ·
   intro y0 y1 y2 y3
   unfold bits_Text.l0
   repeat' first
   | (with_reducible exact ih0 _ _ _ _)
   | (with_reducible exact LeO.refl _)
   | (with_reducible exact LeO.none _)
   | (with_reducible refine LeO.ite ?_ ?_)
   | (with_reducible refine LeO.bind ?_ (fun _ => ?_))
   | exact ih0 _ _ _ _
   | exact LeO.none _
   | refine LeO.ite ?_ ?_
   | refine LeO.bind ?_ (fun _ => ?_)
theorem bits_Text.mono : ∀ a0 k, LeO (bits_Text.f k a0) (bits_Text.f (k + 1) a0) := by
 intro a0 k
 have ih0 := bits_Text.mono_l k
 unfold bits_Text.f
 repeat' first
   | (with_reducible exact ih0 _ _ _ _)
   | (with_reducible exact LeO.refl _)
   | (with_reducible exact LeO.none _)
   | (with_reducible refine LeO.ite ?_ ?_)
   | (with_reducible refine LeO.bind ?_ (fun _ => ?_))
   | exact ih0 _ _ _ _
   | exact LeO.none _
   | refine LeO.ite ?_ ?_
   | refine LeO.bind ?_ (fun _ => ?_)
set_option maxHeartbeats 8000000 in
set_option maxRecDepth 100000 in
theorem bits_Text.calls (k : Nat) (A0 : Option Addr) (c0 : Nat) (l0 : List Int) (r1 : ByteArray) (r2 : Int) (r3 : Int) (w : World) (hr0 : Kd.C (Kd.int .i64) w A0 l0.length l0) (hc0 : l0.length ≤ c0) (h : bits_Text.f k l0 = some (r1, r2, r3)) :
  Calls Try.prog 31 #[.slice A0 l0.length c0] w fun e w' => e = .returned (.tuple #[.string r1, .int .i64 r2, .int .i64 r3]) ∧ Below w.heap.size w w' := by
 have HR0 := Aside0.mk hr0
 have HC0 := Aside0.mk hc0
 clear hr0 hc0
 have HB := Aside0.mk (Below.refl w.heap.size w)
 have H : ((bits_Check.f l0).bind fun t209 => (if t209 ≥ 0 then (some ((⟨#[]⟩ : ByteArray), t209, 10)) else (if 0 ≤ (l0.length : Int) then (if ((l0.length : Int) : Int).toNat ≤ 281474976710656 then (bits_Text.l0 k (List.replicate ((l0.length : Int) : Int).toNat 0) l0 (l0.length : Int) 0) else (none)) else (none)))) = some (r1, r2, r3) := h
 clear h
 replace H := Option.bind_eq_some_iff.mp H
 obtain ⟨t209, A20, H⟩ := H
 replace H : (if t209 ≥ 0 then (some ((⟨#[]⟩ : ByteArray), t209, 10)) else (if 0 ≤ (l0.length : Int) then (if ((l0.length : Int) : Int).toNat ≤ 281474976710656 then (bits_Text.l0 k (List.replicate ((l0.length : Int) : Int).toNat 0) l0 (l0.length : Int) 0) else (none)) else (none))) = some (r1, r2, r3) := H
 have A2 := Aside0.mk A20
 clear A20
 by_cases c3 : t209 ≥ 0
 ·
  rw [if_pos c3] at H
  have c3b0 : decide (0 ≤ t209) = true := decide_eq_true c3
  clear c3
  simp only [Option.some.injEq, Prod.mk.injEq] at H
  obtain ⟨rfl, rfl, rfl⟩ := H
  go_enter Try.func31, Try.ntmps31
  go_wp2_with (first | ((with_reducible refine gate_callee (f := 32) rfl ?_); refine goesL_ (some 10) rfl rfl Try.func32 (by kernel_rfl) rfl #[.slice A0 l0.length c0] rfl (by (try simp only [List.map_toArray, List.map_cons, List.map_nil]); first | done | rfl | (simp only [List.length_drop, List.length_take]; rfl)) ?_; (with_reducible refine (bits_Check.calls _ _ l0 t209 _ ?side1 ?side2 A2.out).mono ?_); (case side1 => repeat (first | exact HR0.out | (with_reducible refine Kd.C_alloc ?_ _) | (with_reducible refine Kd.C_drewN ?_ _) | (with_reducible refine Kd.C_drew ?_))); (case side2 => exact HC0.out); rintro e w' ⟨rfl, ⟨nd, rfl⟩⟩; refine ⟨_, rfl, ?_⟩))
  go_ret3
  exact ⟨by first | rfl | (simp [errW_none, errW_some] <;> rfl) | (simp [*, errW_none, errW_some] <;> rfl), by repeat (first | (with_reducible first | exact HB.out | apply below_alloc | apply pw_below_drewN | apply below_drew1) | exact HB.out)⟩
 ·
  rw [if_neg c3] at H
  have c3b0 : decide (0 ≤ t209) = false := decide_eq_false c3
  clear c3
  by_cases c4 : 0 ≤ (l0.length : Int)
  ·
   rw [if_pos c4] at H
   have c4b0 := eq_true c4
   have c4b1 : decide (0 ≤ (l0.length : Int)) = true := decide_eq_true c4
   clear c4
   by_cases c5 : ((l0.length : Int) : Int).toNat ≤ 281474976710656
   ·
    rw [if_pos c5] at H
    have c5b0 := eq_true c5
    have c5b1 : decide (((l0.length : Int) : Int).toNat ≤ 281474976710656) = true := decide_eq_true c5
    clear c5
    obtain ⟨y210, hy210⟩ : ∃ y_ : List Int, y_ = (List.replicate ((l0.length : Int) : Int).toNat 0) := ⟨_, rfl⟩
    replace H : (bits_Text.l0 k y210 l0 (l0.length : Int) 0) = some (r1, r2, r3) := by first | (rw [hy210]; with_reducible exact H) | (have H2_ := (Option.bind_some _ _).symm.trans H; rw [hy210]; with_reducible exact H2_) | (have H2_ := (Option.bind_some _ _).symm.trans H; with_reducible exact H2_) | with_reducible exact H | (rw [hy210]; exact H) | exact H
    have Ny210 := Aside0.mk hy210
    clear hy210
    have H' := Aside0.mk H
    clear H
    go_enter Try.func31, Try.ntmps31
    go_wp2_with (first | ((with_reducible refine gate_callee (f := 32) rfl ?_); refine goesL_ (some 10) rfl rfl Try.func32 (by kernel_rfl) rfl #[.slice A0 l0.length c0] rfl (by (try simp only [List.map_toArray, List.map_cons, List.map_nil]); first | done | rfl | (simp only [List.length_drop, List.length_take]; rfl)) ?_; (with_reducible refine (bits_Check.calls _ _ l0 t209 _ ?side1 ?side2 A2.out).mono ?_); (case side1 => repeat (first | exact HR0.out | (with_reducible refine Kd.C_alloc ?_ _) | (with_reducible refine Kd.C_drewN ?_ _) | (with_reducible refine Kd.C_drew ?_))); (case side2 => exact HC0.out); rintro e w' ⟨rfl, ⟨nd, rfl⟩⟩; refine ⟨_, rfl, ?_⟩) | ((with_reducible refine gate_dst (N := 16) rfl ?_); refine Kd.R_make (Kd.int .u8) _ 5 rfl (N := 16) rfl 69 _ _ rfl (l0.length : Int) rfl rfl Try.underlying69 (.int .u8 0) 1 info5 rfl (by decide) (by omega) 0 (ok := fun _ => True) (okp := fun _ => True) rfl (fun _ hk => hk) trivial (of_decide_eq_true (by first | (with_reducible assumption) | assumption)) (Nat.le_trans (Nat.mul_le_mul_right _ (of_decide_eq_true (by first | (with_reducible assumption) | assumption) : (l0.length : Int).toNat ≤ 281474976710656)) (by omega)) (Below.refl _ _) (Nat.le_refl _) ?_; intro v211 w6 ho7 hb hg_ hnew_; clear hg_ hnew_; (first | rw [← Ny210.out] at ho7 | (simp only [Int.reduceToNat] at ho7; rw [← Ny210.out] at ho7)); have n0_ := Aside0.mk (Kd.R_lower ho7 (below_size (by repeat (first | (with_reducible first | exact HB.out | apply below_alloc | apply pw_below_drewN | apply below_drew1) | exact HB.out)))); have n1_ := Aside0.mk (below_step (by repeat (first | (with_reducible first | exact HB.out | apply below_alloc | apply pw_below_drewN | apply below_drew1) | exact HB.out)) hb); clear HB; have HO212 := n0_; have HB := n1_; clear n0_ n1_; clear hb ho7))
    go_loopg [19] k (fun kq v19 w' => ∃ (x6_1 : List Int) (x19_1 : Int), v19 = .int .i64 x19_1 ∧ Aside0 (bits_Text.l0 kq x6_1 l0 (l0.length : Int) x19_1 = some (r1, r2, r3)) ∧ Aside0 (kq ≤ k) ∧ Aside0 (Kd.R (Kd.int .u8) 5 w' w.heap.size (fun _ => True) v211 x6_1) ∧ Aside0 (Below w.heap.size w w'))
    case atStart => exact ⟨(y210), (0), (by first | rfl | (simp; done) | (simp [*]; done)), H', ⟨Nat.le_refl _⟩, ⟨by (with_reducible repeat (first | apply Kd.R_alloc | apply Kd.R_drewN | apply Kd.R_drew)); exact HO212.out⟩, ⟨by repeat (first | (with_reducible first | exact HB.out | apply below_alloc | apply pw_below_drewN | apply below_drew1) | exact HB.out)⟩⟩
    case round =>
     clear H'
     try clear p2
     try clear c3
     try clear c3b0
     try clear c4
     try clear c4b0
     try clear c4b1
     try clear c5
     try clear c5b0
     try clear c5b1
     obtain ⟨x6_1, x19_1, rfl, HA, HK1, HO_6, HB⟩ := hrel
     cases gk with
     | zero => exact absurd HA.out (by simp [bits_Text.l0])
     | succ k1 =>
      have H := HA.out
      clear HA
      simp only [bits_Text.l0] at H
      by_cases c8 : x19_1 < (l0.length : Int)
      ·
       rw [if_pos c8] at H
       have c8b0 : decide (x19_1 < (l0.length : Int)) = true := decide_eq_true c8
       clear c8
       by_cases c9 : 0 ≤ x19_1
       ·
        rw [if_pos c9] at H
        have c9b0 : decide (0 ≤ x19_1) = true := decide_eq_true c9
        clear c9
        by_cases c10 : x19_1 < (l0.length : Int)
        ·
         rw [if_pos c10] at H
         have c10b0 : decide (x19_1 < (l0.length : Int)) = true := decide_eq_true c10
         clear c10
         by_cases c11 : x19_1 < (x6_1.length : Int)
         ·
          rw [if_pos c11] at H
          have c11b0 : decide (x19_1 < (x6_1.length : Int)) = true := decide_eq_true c11
          clear c11
          obtain ⟨y214, hy214⟩ : ∃ y_ : List Int, y_ = (x6_1.set (x19_1 : Int).toNat ((wrap64 (48 + (rd l0 x19_1))) % 256)) := ⟨_, rfl⟩
          replace H : (bits_Text.l0 k1 y214 l0 (l0.length : Int) (wrap64 (x19_1 + 1))) = some (r1, r2, r3) := by first | (rw [hy214]; with_reducible exact H) | (have H2_ := (Option.bind_some _ _).symm.trans H; rw [hy214]; with_reducible exact H2_) | (have H2_ := (Option.bind_some _ _).symm.trans H; with_reducible exact H2_) | with_reducible exact H | (rw [hy214]; exact H) | exact H
          have Ny214 := Aside0.mk hy214
          clear hy214
          have H' := Aside0.mk H
          clear H
          have p213 : 0 ≤ (x19_1 : Int) := of_decide_eq_true (by first | (with_reducible assumption) | assumption)
          have q213 : x19_1 < (l0.length : Int) := of_decide_eq_true (by first | (with_reducible assumption) | assumption)
          obtain ⟨ad213, e213, hx213_0⟩ := Kd.at_int HR0.out x19_1 p213 q213
          cases e213
          replace hx213_0 := (HB.out.cell (World.block_lt_of_cell? w _ hx213_0)).trans hx213_0
          replace p213 := eq_true p213
          replace q213 := eq_true q213
          have p12 : 0 ≤ (x19_1 : Int) := of_decide_eq_true (by first | (with_reducible assumption) | assumption)
          have q12 : (x19_1 : Int) < ((x6_1.length : Int) : Int) := of_decide_eq_true (by first | (with_reducible assumption) | assumption)
          obtain ⟨go12, co12, eo12, gb12, gl12, cl12, HG12⟩ := Kd.R_form HO_6.out (by omega)
          (first | cases eo12 | (injection eo12 with ea_ en_ ec_; (first | subst ea_ | (injection ea_ with ea_; subst ea_)); subst ec_; clear en_))
          have GB12 := Aside0.mk gb12
          have GG12 := Aside0.mk HG12
          clear gb12 gl12 HG12
          obtain ⟨hx12_0, hf12_0⟩ := Kd.R_celln 0 HO_6.out (x19_1 : Int) p12 q12
          replace p12 := eq_true p12
          replace q12 := eq_true q12
          have HP13 := Kd.R_putg HO_6.out (x19_1 : Int) ((wrap64 (48 + (rd l0 x19_1))) % 256)
          go_wp2_with (first | ((with_reducible refine gate_store (t := 5) (p := 29) rfl ?_); refine store_event (t := 5) (p := 29) (v := ?vo_w14) (w1 := (wr.setCell ⟨go12, (x19_1 : Int).toNat, none⟩ (.int .u8 ((wrap64 (48 + (rd l0 x19_1))) % 256)))) ?hg ?ho ?hn ?hr ?_; (case ho => rfl); (case hg => rfl); (case hn => rfl); (case hr => first | (go_simp; done) | (go_simp; rfl)); intro w14 hw; have hg : wr.grownBy w14 (some go12) := (by rw [hw]; exact HP13.2); have hp_ : Kd.R (Kd.int .u8) 5 w14 w.heap.size (fun _ => True) (.slice (some ⟨go12, 0, none⟩) x6_1.length co12) y214 := (by rw [hw, Ny214.out]; exact HP13.1); clear HP13; have n0_ := Aside0.mk (hp_); have n1_ := Aside0.mk ((by rw [hw]; exact below_set (HB.out) GB12.out : Below w.heap.size w w14)); clear HO_6; clear HB; have HO_6 := n0_; have HB := n1_; clear n0_ n1_; clear hg hw hp_))
          go_roundg k1
          case measure => have := HK1.out; omega
          case rel => exact ⟨(y214), (wrap64 (x19_1 + 1)), (by first | rfl | (simp; done) | (simp [*]; done)), H', ⟨by have := HK1.out; omega⟩, ⟨by (with_reducible repeat (first | apply Kd.R_alloc | apply Kd.R_drewN | apply Kd.R_drew)); exact HO_6.out⟩, ⟨by repeat (first | (with_reducible first | exact HB.out | apply below_alloc | apply pw_below_drewN | apply below_drew1) | exact HB.out)⟩⟩
         ·
          rw [if_neg c11] at H
          exact absurd H (by simp)
        ·
         rw [if_neg c10] at H
         exact absurd H (by simp)
       ·
        rw [if_neg c9] at H
        exact absurd H (by simp)
      ·
       rw [if_neg c8] at H
       have c8b0 : decide (x19_1 < (l0.length : Int)) = false := decide_eq_false c8
       clear c8
       simp only [Option.some.injEq, Prod.mk.injEq] at H
       obtain ⟨rfl, rfl, rfl⟩ := H
       have hcv15 := own_string (P := Try.prog) Try.underlying69 Try.underlying5 Try.underlying9 (Kd.own_of_R HO_6.out)
       go_wp2
       go_ret3
       exact ⟨by first | rfl | (simp [errW_none, errW_some] <;> rfl) | (simp [*, errW_none, errW_some] <;> rfl), by repeat (first | (with_reducible first | exact HB.out | apply below_alloc | apply pw_below_drewN | apply below_drew1) | exact HB.out)⟩
   ·
    rw [if_neg c5] at H
    exact absurd H (by simp)
  ·
   rw [if_neg c4] at H
   exact absurd H (by simp)

/-! ### bits_level: function 61 -/
def bits_level.f (a0 : Int) : Option (Bool) := if a0 = 0 then (some true) else (some (a0 == 1))
set_option maxHeartbeats 8000000 in
set_option maxRecDepth 100000 in
theorem bits_level.calls (a0 : Int) (r : Bool) (w : World) (h : bits_level.f a0 = some r) :
  Calls Try.prog 61 #[.int .i64 a0] w fun e w' => e = .returned (.bool r) ∧ Drawn0 w w' := by
 have H : (if a0 = 0 then (some true) else (some (a0 == 1))) = some r := h
 clear h
 by_cases c2 : a0 = 0
 ·
  rw [if_pos c2] at H
  have c2b0 : (a0 == 0) = true := beq_iff_eq.mpr c2
  have c2b1 : (a0 != 0) = false := bne_eq_false_iff_eq.mpr c2
  clear c2
  obtain rfl := Option.some.inj H
  go_enter Try.func61, Try.ntmps61
  go_wp2
  go_ret
  exact ⟨by first | rfl | (simp; done) | (simp [*]; done), by repeat (first | exact Drawn0.refl _ | apply Drawn0.step)⟩
 ·
  rw [if_neg c2] at H
  have c2b0 : (a0 == 0) = false := beq_eq_false_iff_ne.mpr c2
  have c2b1 : (a0 != 0) = true := bne_iff_ne.mpr c2
  obtain rfl := Option.some.inj H
  go_enter Try.func61, Try.ntmps61
  go_wp2
  go_ret
  exact ⟨by first | rfl | (simp; done) | (simp [*]; done), by repeat (first | exact Drawn0.refl _ | apply Drawn0.step)⟩

/-! ### bits_Parse: function 34 -/
def bits_Parse.l0 : Nat → ByteArray → List Int → Int → Int → Option (List Int × Int × Int)
 | 0, _, _, _, _ => none
 | k + 1, x0, x5, x11, x12 => if x12 < x11 then (if 0 ≤ x12 then (if x12 < (x0.size : Int) then (if x12 < (x5.length : Int) then ((some (x5.set (x12 : Int).toNat (wrap64 ((wrap64 (bt x0 x12)) - 48)) : List Int)).bind fun y218 => ((bits_level.f (rd y218 x12)).bind fun t220 => (if t220 = true then (bits_Parse.l0 k x0 y218 x11 (wrap64 (x12 + 1))) else (some (([] : List Int), x12, 11))))) else (none)) else (none)) else (none)) else (some (x5, 0, 0))
def bits_Parse.f (k : Nat) (a0 : ByteArray) : Option (List Int × Int × Int) := if 0 ≤ (a0.size : Int) then (if ((a0.size : Int) : Int).toNat ≤ 35184372088832 then (bits_Parse.l0 k a0 (List.replicate ((a0.size : Int) : Int).toNat 0) (a0.size : Int) 0) else (none)) else (none)
theorem bits_Parse.mono_l : ∀ k, (∀ y0 y1 y2 y3, LeO (bits_Parse.l0 k y0 y1 y2 y3) (bits_Parse.l0 (k + 1) y0 y1 y2 y3))
 | 0 => fun _ _ _ _ r h => by simp [bits_Parse.l0] at h
 | k + 1 => by
  have ih0 := bits_Parse.mono_l k
  ·
   intro y0 y1 y2 y3
   unfold bits_Parse.l0
   repeat' first
   | (with_reducible exact ih0 _ _ _ _)
   | (with_reducible exact LeO.refl _)
   | (with_reducible exact LeO.none _)
   | (with_reducible refine LeO.ite ?_ ?_)
   | (with_reducible refine LeO.bind ?_ (fun _ => ?_))
   | exact ih0 _ _ _ _
   | exact LeO.none _
   | refine LeO.ite ?_ ?_
   | refine LeO.bind ?_ (fun _ => ?_)
theorem bits_Parse.mono : ∀ a0 k, LeO (bits_Parse.f k a0) (bits_Parse.f (k + 1) a0) := by
 intro a0 k
 have ih0 := bits_Parse.mono_l k
 unfold bits_Parse.f
 repeat' first
   | (with_reducible exact ih0 _ _ _ _)
   | (with_reducible exact LeO.refl _)
   | (with_reducible exact LeO.none _)
   | (with_reducible refine LeO.ite ?_ ?_)
   | (with_reducible refine LeO.bind ?_ (fun _ => ?_))
   | exact ih0 _ _ _ _
   | exact LeO.none _
   | refine LeO.ite ?_ ?_
   | refine LeO.bind ?_ (fun _ => ?_)
set_option maxHeartbeats 8000000 in
set_option maxRecDepth 100000 in
theorem bits_Parse.calls (k : Nat) (a0 : ByteArray) (r1 : List Int) (r2 : Int) (r3 : Int) (w : World) (h : bits_Parse.f k a0 = some (r1, r2, r3)) :
  Calls Try.prog 34 #[.string a0] w fun e w' => ∃ v0_ : Value, e = .returned (.tuple #[v0_, .int .i64 r2, .int .i64 r3]) ∧ Kd.R (Kd.int .i64) 3 w' w.heap.size (fun _ => True) v0_ r1 ∧ Below w.heap.size w w' := by
 have HB := Aside0.mk (Below.refl w.heap.size w)
 have H : (if 0 ≤ (a0.size : Int) then (if ((a0.size : Int) : Int).toNat ≤ 35184372088832 then (bits_Parse.l0 k a0 (List.replicate ((a0.size : Int) : Int).toNat 0) (a0.size : Int) 0) else (none)) else (none)) = some (r1, r2, r3) := h
 clear h
 by_cases c2 : 0 ≤ (a0.size : Int)
 ·
  rw [if_pos c2] at H
  have c2b0 := eq_true c2
  have c2b1 : decide (0 ≤ (a0.size : Int)) = true := decide_eq_true c2
  clear c2
  by_cases c3 : ((a0.size : Int) : Int).toNat ≤ 35184372088832
  ·
   rw [if_pos c3] at H
   have c3b0 := eq_true c3
   have c3b1 : decide (((a0.size : Int) : Int).toNat ≤ 35184372088832) = true := decide_eq_true c3
   clear c3
   obtain ⟨y215, hy215⟩ : ∃ y_ : List Int, y_ = (List.replicate ((a0.size : Int) : Int).toNat 0) := ⟨_, rfl⟩
   replace H : (bits_Parse.l0 k a0 y215 (a0.size : Int) 0) = some (r1, r2, r3) := by first | (rw [hy215]; with_reducible exact H) | (have H2_ := (Option.bind_some _ _).symm.trans H; rw [hy215]; with_reducible exact H2_) | (have H2_ := (Option.bind_some _ _).symm.trans H; with_reducible exact H2_) | with_reducible exact H | (rw [hy215]; exact H) | exact H
   have Ny215 := Aside0.mk hy215
   clear hy215
   have H' := Aside0.mk H
   clear H
   go_enter Try.func34, Try.ntmps34
   go_wp2_with (first | ((with_reducible refine gate_dst (N := 9) rfl ?_); refine Kd.R_make (Kd.int .i64) _ 3 rfl (N := 9) rfl 22 _ _ rfl (a0.size : Int) rfl rfl Try.underlying22 (.int .i64 0) 8 info3 rfl (by decide) (by omega) 0 (ok := fun _ => True) (okp := fun _ => True) rfl (fun _ hk => hk) trivial (of_decide_eq_true (by first | (with_reducible assumption) | assumption)) (Nat.le_trans (Nat.mul_le_mul_right _ (of_decide_eq_true (by first | (with_reducible assumption) | assumption) : (a0.size : Int).toNat ≤ 35184372088832)) (by omega)) (Below.refl _ _) (Nat.le_refl _) ?_; intro v216 w4 ho5 hb hg_ hnew_; clear hg_ hnew_; (first | rw [← Ny215.out] at ho5 | (simp only [Int.reduceToNat] at ho5; rw [← Ny215.out] at ho5)); have n0_ := Aside0.mk (Kd.R_lower ho5 (below_size (by repeat (first | (with_reducible first | exact HB.out | apply below_alloc | apply pw_below_drewN | apply below_drew1) | exact HB.out)))); have n1_ := Aside0.mk (below_step (by repeat (first | (with_reducible first | exact HB.out | apply below_alloc | apply pw_below_drewN | apply below_drew1) | exact HB.out)) hb); clear HB; have HO217 := n0_; have HB := n1_; clear n0_ n1_; clear hb ho5))
   go_loopg [12] k (fun kq v12 w' => ∃ (x5_1 : List Int) (x12_1 : Int), v12 = .int .i64 x12_1 ∧ Aside0 (bits_Parse.l0 kq a0 x5_1 (a0.size : Int) x12_1 = some (r1, r2, r3)) ∧ Aside0 (kq ≤ k) ∧ Aside0 (Kd.R (Kd.int .i64) 3 w' w.heap.size (fun _ => True) v216 x5_1) ∧ Aside0 (Below w.heap.size w w'))
   case atStart => exact ⟨(y215), (0), (by first | rfl | (simp; done) | (simp [*]; done)), H', ⟨Nat.le_refl _⟩, ⟨by (with_reducible repeat (first | apply Kd.R_alloc | apply Kd.R_drewN | apply Kd.R_drew)); exact HO217.out⟩, ⟨by repeat (first | (with_reducible first | exact HB.out | apply below_alloc | apply pw_below_drewN | apply below_drew1) | exact HB.out)⟩⟩
   case round =>
    clear H'
    try clear c2
    try clear c2b0
    try clear c2b1
    try clear p2
    try clear c3
    try clear c3b0
    try clear c3b1
    obtain ⟨x5_1, x12_1, rfl, HA, HK1, HO_5, HB⟩ := hrel
    cases gk with
    | zero => exact absurd HA.out (by simp [bits_Parse.l0])
    | succ k1 =>
     have H := HA.out
     clear HA
     simp only [bits_Parse.l0] at H
     by_cases c6 : x12_1 < (a0.size : Int)
     ·
      rw [if_pos c6] at H
      have c6b0 : decide (x12_1 < (a0.size : Int)) = true := decide_eq_true c6
      clear c6
      by_cases c7 : 0 ≤ x12_1
      ·
       rw [if_pos c7] at H
       have c7b0 : decide (0 ≤ x12_1) = true := decide_eq_true c7
       clear c7
       by_cases c8 : x12_1 < (a0.size : Int)
       ·
        rw [if_pos c8] at H
        have c8b0 : decide (x12_1 < (a0.size : Int)) = true := decide_eq_true c8
        clear c8
        by_cases c10 : x12_1 < (x5_1.length : Int)
        ·
         rw [if_pos c10] at H
         have c10b0 : decide (x12_1 < (x5_1.length : Int)) = true := decide_eq_true c10
         clear c10
         obtain ⟨y218, hy218⟩ : ∃ y_ : List Int, y_ = (x5_1.set (x12_1 : Int).toNat (wrap64 ((wrap64 (bt a0 x12_1)) - 48))) := ⟨_, rfl⟩
         replace H : ((bits_level.f (rd y218 x12_1)).bind fun t220 => (if t220 = true then (bits_Parse.l0 k1 a0 y218 (a0.size : Int) (wrap64 (x12_1 + 1))) else (some (([] : List Int), x12_1, 11)))) = some (r1, r2, r3) := by first | (rw [hy218]; with_reducible exact H) | (have H2_ := (Option.bind_some _ _).symm.trans H; rw [hy218]; with_reducible exact H2_) | (have H2_ := (Option.bind_some _ _).symm.trans H; with_reducible exact H2_) | with_reducible exact H | (rw [hy218]; exact H) | exact H
         have Ny218 := Aside0.mk hy218
         clear hy218
         replace H := Option.bind_eq_some_iff.mp H
         obtain ⟨t220, A120, H⟩ := H
         replace H : (if t220 = true then (bits_Parse.l0 k1 a0 y218 (a0.size : Int) (wrap64 (x12_1 + 1))) else (some (([] : List Int), x12_1, 11))) = some (r1, r2, r3) := H
         have A12 := Aside0.mk A120
         clear A120
         by_cases c13 : t220 = true
         ·
          subst c13
          have H1 : (bits_Parse.l0 k1 a0 y218 (a0.size : Int) (wrap64 (x12_1 + 1))) = some (r1, r2, r3) := by rw [if_pos rfl] at H; exact H
          clear H
          have H := H1
          clear H1
          have H' := Aside0.mk H
          clear H
          have p9 : 0 ≤ (x12_1 : Int) := of_decide_eq_true (by first | (with_reducible assumption) | assumption)
          have q9 : x12_1 < (a0.size : Int) := of_decide_eq_true (by first | (with_reducible assumption) | assumption)
          have hx9 := bt_at a0 x12_1
          replace p9 := eq_true p9
          replace q9 := eq_true q9
          have p11 : 0 ≤ (x12_1 : Int) := of_decide_eq_true (by first | (with_reducible assumption) | assumption)
          have q11 : (x12_1 : Int) < ((x5_1.length : Int) : Int) := of_decide_eq_true (by first | (with_reducible assumption) | assumption)
          obtain ⟨go11, co11, eo11, gb11, gl11, cl11, HG11⟩ := Kd.R_form HO_5.out (by omega)
          (first | cases eo11 | (injection eo11 with ea_ en_ ec_; (first | subst ea_ | (injection ea_ with ea_; subst ea_)); subst ec_; clear en_))
          have GB11 := Aside0.mk gb11
          have GG11 := Aside0.mk HG11
          clear gb11 gl11 HG11
          obtain ⟨hx11_0, hf11_0⟩ := Kd.R_celln 0 HO_5.out (x12_1 : Int) p11 q11
          replace p11 := eq_true p11
          replace q11 := eq_true q11
          have HP14 := Kd.R_putg HO_5.out (x12_1 : Int) (wrap64 ((wrap64 (bt a0 x12_1)) - 48))
          go_wp2_with (first | ((with_reducible refine gate_store (t := 3) (p := 22) rfl ?_); refine store_event (t := 3) (p := 22) (v := ?vo_w15) (w1 := (wr.setCell ⟨go11, (x12_1 : Int).toNat, none⟩ (.int .i64 (wrap64 ((wrap64 (bt a0 x12_1)) - 48))))) ?hg ?ho ?hn ?hr ?_; (case ho => rfl); (case hg => rfl); (case hn => rfl); (case hr => first | (go_simp; done) | (go_simp; rfl)); intro w15 hw; have hg : wr.grownBy w15 (some go11) := (by rw [hw]; exact HP14.2); have hp_ : Kd.R (Kd.int .i64) 3 w15 w.heap.size (fun _ => True) (.slice (some ⟨go11, 0, none⟩) x5_1.length co11) y218 := (by rw [hw, Ny218.out]; exact HP14.1); clear HP14; have n0_ := Aside0.mk (hp_); have n1_ := Aside0.mk ((by rw [hw]; exact below_set (HB.out) GB11.out : Below w.heap.size w w15)); clear HO_5; clear HB; have HO_5 := n0_; have HB := n1_; clear n0_ n1_; clear hg hw hp_; have p219 : 0 ≤ (x12_1 : Int) := of_decide_eq_true (by first | (with_reducible assumption) | assumption); have q219 : x12_1 < (y218.length : Int) := (by have h_ : (x12_1 : Int) < ((x5_1.length : Int) : Int) := of_decide_eq_true (by first | (with_reducible assumption) | assumption); first | (have e_ := (Kd.R_reads' HO_5.out).1; omega) | simpa only [Ny218.out, List.length_set] using h_); have ql219 : ((x12_1 : Int) < ((x5_1.length : Int) : Int)) = True := eq_true (of_decide_eq_true (by first | (with_reducible assumption) | assumption)); obtain ⟨ad219, e219, hx219_0⟩ := Kd.at_int (Kd.R_reads' HO_5.out).2.2 x12_1 p219 q219; obtain rfl : (⟨go11, 0, none⟩ : Addr) = ad219 := (by injection e219); (first | simp only [add_plain] at hx219_0 | simp only [add_at] at hx219_0 | simp only [Addr.add, Nat.zero_add] at hx219_0 | skip); replace p219 := eq_true p219; replace q219 := eq_true q219) | ((with_reducible refine gate_callee (f := 61) rfl ?_); refine goesL_ (some 27) rfl rfl Try.func61 (by kernel_rfl) rfl #[.int .i64 (rd y218 x12_1)] rfl (by (try simp only [List.map_toArray, List.map_cons, List.map_nil]); first | done | rfl | (simp only [List.length_drop, List.length_take]; rfl)) ?_; (with_reducible refine (bits_level.calls (rd y218 x12_1) true _ A12.out).mono ?_); rintro e w' ⟨rfl, ⟨nd, rfl⟩⟩; refine ⟨_, rfl, ?_⟩))
          go_roundg k1
          case measure => have := HK1.out; omega
          case rel => exact ⟨(y218), (wrap64 (x12_1 + 1)), (by first | rfl | (simp; done) | (simp [*]; done)), H', ⟨by have := HK1.out; omega⟩, ⟨by (with_reducible repeat (first | apply Kd.R_alloc | apply Kd.R_drewN | apply Kd.R_drew)); exact HO_5.out⟩, ⟨by repeat (first | (with_reducible first | exact HB.out | apply below_alloc | apply pw_below_drewN | apply below_drew1) | exact HB.out)⟩⟩
         ·
          replace c13 := Bool.eq_false_iff.mpr c13
          subst c13
          have H1 : (some (([] : List Int), x12_1, 11)) = some (r1, r2, r3) := by rw [if_neg (show ¬ (false = true) by decide)] at H; exact H
          clear H
          have H := H1
          clear H1
          simp only [Option.some.injEq, Prod.mk.injEq] at H
          obtain ⟨rfl, rfl, rfl⟩ := H
          have p9 : 0 ≤ (x12_1 : Int) := of_decide_eq_true (by first | (with_reducible assumption) | assumption)
          have q9 : x12_1 < (a0.size : Int) := of_decide_eq_true (by first | (with_reducible assumption) | assumption)
          have hx9 := bt_at a0 x12_1
          replace p9 := eq_true p9
          replace q9 := eq_true q9
          have p11 : 0 ≤ (x12_1 : Int) := of_decide_eq_true (by first | (with_reducible assumption) | assumption)
          have q11 : (x12_1 : Int) < ((x5_1.length : Int) : Int) := of_decide_eq_true (by first | (with_reducible assumption) | assumption)
          obtain ⟨go11, co11, eo11, gb11, gl11, cl11, HG11⟩ := Kd.R_form HO_5.out (by omega)
          (first | cases eo11 | (injection eo11 with ea_ en_ ec_; (first | subst ea_ | (injection ea_ with ea_; subst ea_)); subst ec_; clear en_))
          have GB11 := Aside0.mk gb11
          have GG11 := Aside0.mk HG11
          clear gb11 gl11 HG11
          obtain ⟨hx11_0, hf11_0⟩ := Kd.R_celln 0 HO_5.out (x12_1 : Int) p11 q11
          replace p11 := eq_true p11
          replace q11 := eq_true q11
          have HP16 := Kd.R_putg HO_5.out (x12_1 : Int) (wrap64 ((wrap64 (bt a0 x12_1)) - 48))
          go_wp2_with (first | ((with_reducible refine gate_store (t := 3) (p := 22) rfl ?_); refine store_event (t := 3) (p := 22) (v := ?vo_w17) (w1 := (wr.setCell ⟨go11, (x12_1 : Int).toNat, none⟩ (.int .i64 (wrap64 ((wrap64 (bt a0 x12_1)) - 48))))) ?hg ?ho ?hn ?hr ?_; (case ho => rfl); (case hg => rfl); (case hn => rfl); (case hr => first | (go_simp; done) | (go_simp; rfl)); intro w17 hw; have hg : wr.grownBy w17 (some go11) := (by rw [hw]; exact HP16.2); have hp_ : Kd.R (Kd.int .i64) 3 w17 w.heap.size (fun _ => True) (.slice (some ⟨go11, 0, none⟩) x5_1.length co11) y218 := (by rw [hw, Ny218.out]; exact HP16.1); clear HP16; have n0_ := Aside0.mk (hp_); have n1_ := Aside0.mk ((by rw [hw]; exact below_set (HB.out) GB11.out : Below w.heap.size w w17)); clear HO_5; clear HB; have HO_5 := n0_; have HB := n1_; clear n0_ n1_; clear hg hw hp_; have p219 : 0 ≤ (x12_1 : Int) := of_decide_eq_true (by first | (with_reducible assumption) | assumption); have q219 : x12_1 < (y218.length : Int) := (by have h_ : (x12_1 : Int) < ((x5_1.length : Int) : Int) := of_decide_eq_true (by first | (with_reducible assumption) | assumption); first | (have e_ := (Kd.R_reads' HO_5.out).1; omega) | simpa only [Ny218.out, List.length_set] using h_); have ql219 : ((x12_1 : Int) < ((x5_1.length : Int) : Int)) = True := eq_true (of_decide_eq_true (by first | (with_reducible assumption) | assumption)); obtain ⟨ad219, e219, hx219_0⟩ := Kd.at_int (Kd.R_reads' HO_5.out).2.2 x12_1 p219 q219; obtain rfl : (⟨go11, 0, none⟩ : Addr) = ad219 := (by injection e219); (first | simp only [add_plain] at hx219_0 | simp only [add_at] at hx219_0 | simp only [Addr.add, Nat.zero_add] at hx219_0 | skip); replace p219 := eq_true p219; replace q219 := eq_true q219) | ((with_reducible refine gate_callee (f := 61) rfl ?_); refine goesL_ (some 27) rfl rfl Try.func61 (by kernel_rfl) rfl #[.int .i64 (rd y218 x12_1)] rfl (by (try simp only [List.map_toArray, List.map_cons, List.map_nil]); first | done | rfl | (simp only [List.length_drop, List.length_take]; rfl)) ?_; (with_reducible refine (bits_level.calls (rd y218 x12_1) false _ A12.out).mono ?_); rintro e w' ⟨rfl, ⟨nd, rfl⟩⟩; refine ⟨_, rfl, ?_⟩))
          go_ret3
          exact ⟨_, by first | rfl | (simp [errW_none, errW_some] <;> rfl) | (simp [*, errW_none, errW_some] <;> rfl), by first | exact Kd.R_nil _ _ _ _ _ | exact Kd.N_nil _ _ _ _ _ | exact Kd.V_nil _ _ _ _ _ | exact Kd.Q_nil _ _ _ _ _ | exact Kd.S_nil _ _ _ _ _, by repeat (first | (with_reducible first | exact HB.out | apply below_alloc | apply pw_below_drewN | apply below_drew1) | exact HB.out)⟩
        ·
         rw [if_neg c10] at H
         exact absurd H (by simp)
       ·
        rw [if_neg c8] at H
        exact absurd H (by simp)
      ·
       rw [if_neg c7] at H
       exact absurd H (by simp)
     ·
      rw [if_neg c6] at H
      have c6b0 : decide (x12_1 < (a0.size : Int)) = false := decide_eq_false c6
      clear c6
      simp only [Option.some.injEq, Prod.mk.injEq] at H
      obtain ⟨rfl, rfl, rfl⟩ := H
      go_wp2
      go_ret3
      exact ⟨_, by first | rfl | (simp [errW_none, errW_some] <;> rfl) | (simp [*, errW_none, errW_some] <;> rfl), by (with_reducible repeat (first | apply Kd.R_alloc | apply Kd.R_drewN | apply Kd.R_drew)); exact HO_5.out, by repeat (first | (with_reducible first | exact HB.out | apply below_alloc | apply pw_below_drewN | apply below_drew1) | exact HB.out)⟩
  ·
   rw [if_neg c3] at H
   exact absurd H (by simp)
 ·
  rw [if_neg c2] at H
  exact absurd H (by simp)

end Go.Proofs.Ytipflkbpjnacnaa.PA
