/- Functions of the program, in plain Lean, and their walks (printed; half the indent). Conditions: none. -/
-- PRINTED by print.py (a twelfth state) out of the translation. Not trusted: Lean checks it.
import Derived.Test.YtipflkbpjnacnaaPAx0
import Derived.Test.YtipflkbpjnacnaaPAx1
import Derived.Test.YtipflkbpjnacnaaPAx12
import Derived.Test.YtipflkbpjnacnaaPAx13
import Derived.Test.YtipflkbpjnacnaaPAx16
namespace Go.Proofs.Ytipflkbpjnacnaa.PA
open Go.RowKit Go.Proofs.YtipflkbpjnacnaaW.PrintWords Go.Proofs.YtipflkbpjnacnaaW.PrintLast Go.Proofs.YtipflkbpjnacnaaW.PrintMore
attribute [local go_sem] max2_int min2_int max_two min_two max_three min_three max_four min_four   -- for this text's walks alone
set_option linter.unusedVariables false
set_option linter.unusedSimpArgs false

/-! ### magnetolaw05_StuffTurned: function 11 -/
mutual
def magnetolaw05_StuffTurned.j0 : Nat → List Int → List Int → Int → Bool → Option (Bool)
 | 0, _, _, _, _ => none
 | k + 1, x0, x1, x2, x31 => if x31 = true then ((magnetolaw05_awake.f k).bind fun t530 => (some t530)) else ((stuff_Add.f x0).bind fun t531 => (if (t531.length : Int) < (x0.length : Int) then (none) else (if (t531.length : Int) = 0 then ((magnetolaw05_awake.f k).bind fun t534 => (some t534)) else ((some (([] : List Int) : List Int)).bind fun y535 => (if y535.length + t531.length < 17592186044416 then (magnetolaw05_StuffTurned.l0 k x0 x1 x2 t531 (y535 ++ t531) 0) else (none))))))
def magnetolaw05_StuffTurned.l0 : Nat → List Int → List Int → Int → List Int → List Int → Int → Option (Bool)
 | 0, _, _, _, _, _, _ => none
 | k + 1, x0, x1, x2, x7, x8, x9 => if x9 < (x1.length : Int) then (if 0 ≤ x9 then (if (x7.length : Int) = 0 then (none) else (if 0 ≤ (Int.tmod (wrap64 ((Int.tmod (rd x1 x9) (x7.length : Int)) + (x7.length : Int))) (x7.length : Int)) then (if (Int.tmod (wrap64 ((Int.tmod (rd x1 x9) (x7.length : Int)) + (x7.length : Int))) (x7.length : Int)) < (x8.length : Int) then (magnetolaw05_StuffTurned.l0 k x0 x1 x2 x7 (x8.set ((Int.tmod (wrap64 ((Int.tmod (rd x1 x9) (x7.length : Int)) + (x7.length : Int))) (x7.length : Int)) : Int).toNat (wrap64 (1 - (rd x8 (Int.tmod (wrap64 ((Int.tmod (rd x1 x9) (x7.length : Int)) + (x7.length : Int))) (x7.length : Int)))))) (wrap64 (x9 + 1))) else (none)) else (none))) else (none)) else ((stuff_Take.f k x8).bind fun bt544 => (if bt544.2.2 = 0 then ((magnetolaw05_ints.f k bt544.1 x0).bind fun t549 => ((magnetolaw05_ints.f k x8 x7).bind fun t550 => (if (t549 != t550) = true then (none) else (magnetolaw05_StuffTurned.j2 k x0 x2 x7 false)))) else (if bt544.2.1 < 0 then (none) else (if bt544.2.1 > (x8.length : Int) then (none) else (if (bt544.1.length : Int) = 0 then ((magnetolaw05_ints.f k x8 x7).bind fun t551 => (magnetolaw05_StuffTurned.j2 k x0 x2 x7 t551)) else (none))))))
def magnetolaw05_StuffTurned.j2 : Nat → List Int → Int → List Int → Bool → Option (Bool)
 | 0, _, _, _, _ => none
 | k + 1, x0, x2, x7, x118 => if x118 = true then (none) else (if (x7.length : Int) = 0 then (none) else ((some (([] : List Int) : List Int)).bind fun y552 => (if 0 ≤ (Int.tmod (wrap64 ((Int.tmod x2 (x7.length : Int)) + (x7.length : Int))) (x7.length : Int)) then (if (Int.tmod (wrap64 ((Int.tmod x2 (x7.length : Int)) + (x7.length : Int))) (x7.length : Int)) ≤ (x7.length : Int) then ((some (x7.take ((Int.tmod (wrap64 ((Int.tmod x2 (x7.length : Int)) + (x7.length : Int))) (x7.length : Int)) : Int).toNat : List Int)).bind fun y555 => (if y552.length + y555.length < 17592186044416 then ((some (y552 ++ y555 : List Int)).bind fun y559 => (if 0 ≤ (wrap64 ((Int.tmod (wrap64 ((Int.tmod x2 (x7.length : Int)) + (x7.length : Int))) (x7.length : Int)) + 1)) then (if (wrap64 ((Int.tmod (wrap64 ((Int.tmod x2 (x7.length : Int)) + (x7.length : Int))) (x7.length : Int)) + 1)) ≤ (x7.length : Int) then ((some (x7.drop ((wrap64 ((Int.tmod (wrap64 ((Int.tmod x2 (x7.length : Int)) + (x7.length : Int))) (x7.length : Int)) + 1)) : Int).toNat : List Int)).bind fun y562 => (if y559.length + y562.length < 17592186044416 then ((stuff_Take.f k (y559 ++ y562)).bind fun bt569 => (if bt569.2.2 = 0 then ((magnetolaw05_ints.f k bt569.1 x0).bind fun t574 => (if t574 = true then (none) else ((magnetolaw05_awake.f k).bind fun t575 => (some t575)))) else ((magnetolaw05_awake.f k).bind fun t576 => (some t576)))) else (none))) else (none)) else (none))) else (none))) else (none)) else (none))))
end
def magnetolaw05_StuffTurned.f (k : Nat) (l0 : List Int) (l1 : List Int) (a2 : Int) : Option (Bool) := if (l0.length : Int) > 300 then (magnetolaw05_StuffTurned.j0 k l0 l1 a2 true) else (if (l1.length : Int) > 10 then (magnetolaw05_StuffTurned.j0 k l0 l1 a2 true) else ((bits_Check.f l0).bind fun t529 => (magnetolaw05_StuffTurned.j0 k l0 l1 a2 (decide (t529 ≥ 0)))))
theorem magnetolaw05_StuffTurned.mono_l : ∀ k, (∀ y0 y1 y2 y3, LeO (magnetolaw05_StuffTurned.j0 k y0 y1 y2 y3) (magnetolaw05_StuffTurned.j0 (k + 1) y0 y1 y2 y3)) ∧ (∀ y0 y1 y2 y3 y4 y5, LeO (magnetolaw05_StuffTurned.l0 k y0 y1 y2 y3 y4 y5) (magnetolaw05_StuffTurned.l0 (k + 1) y0 y1 y2 y3 y4 y5)) ∧ (∀ y0 y1 y2 y3, LeO (magnetolaw05_StuffTurned.j2 k y0 y1 y2 y3) (magnetolaw05_StuffTurned.j2 (k + 1) y0 y1 y2 y3))
 | 0 => ⟨fun _ _ _ _ r h => by simp [magnetolaw05_StuffTurned.j0] at h, fun _ _ _ _ _ _ r h => by simp [magnetolaw05_StuffTurned.l0] at h, fun _ _ _ _ r h => by simp [magnetolaw05_StuffTurned.j2] at h⟩
 | k + 1 => by
  obtain ⟨ih0, ih1, ih2⟩ := magnetolaw05_StuffTurned.mono_l k
  refine ⟨?_, ?_, ?_⟩
  ·
   intro y0 y1 y2 y3
   unfold magnetolaw05_StuffTurned.j0
   repeat' first
   | (with_reducible exact ih0 _ _ _ _)
   | (with_reducible exact ih1 _ _ _ _ _ _)
   | (with_reducible exact ih2 _ _ _ _)
   | (with_reducible exact magnetolaw05_awake.mono _)
   | (with_reducible exact magnetolaw05_ints.mono _ _ _)
   | (with_reducible exact stuff_Take.mono _ _)
   | (with_reducible exact LeO.refl _)
   | (with_reducible exact LeO.none _)
   | (with_reducible refine LeO.ite ?_ ?_)
   | (with_reducible refine LeO.bind ?_ (fun _ => ?_))
   | exact ih0 _ _ _ _
   | exact ih1 _ _ _ _ _ _
   | exact ih2 _ _ _ _
   | exact magnetolaw05_awake.mono _
   | exact magnetolaw05_ints.mono _ _ _
   | exact stuff_Take.mono _ _
   | exact LeO.none _
   | refine LeO.ite ?_ ?_
   | refine LeO.bind ?_ (fun _ => ?_)
  ·
   intro y0 y1 y2 y3 y4 y5
   unfold magnetolaw05_StuffTurned.l0
   repeat' first
   | (with_reducible exact ih0 _ _ _ _)
   | (with_reducible exact ih1 _ _ _ _ _ _)
   | (with_reducible exact ih2 _ _ _ _)
   | (with_reducible exact magnetolaw05_awake.mono _)
   | (with_reducible exact magnetolaw05_ints.mono _ _ _)
   | (with_reducible exact stuff_Take.mono _ _)
   | (with_reducible exact LeO.refl _)
   | (with_reducible exact LeO.none _)
   | (with_reducible refine LeO.ite ?_ ?_)
   | (with_reducible refine LeO.bind ?_ (fun _ => ?_))
   | exact ih0 _ _ _ _
   | exact ih1 _ _ _ _ _ _
   | exact ih2 _ _ _ _
   | exact magnetolaw05_awake.mono _
   | exact magnetolaw05_ints.mono _ _ _
   | exact stuff_Take.mono _ _
   | exact LeO.none _
   | refine LeO.ite ?_ ?_
   | refine LeO.bind ?_ (fun _ => ?_)
  ·
   intro y0 y1 y2 y3
   unfold magnetolaw05_StuffTurned.j2
   repeat' first
   | (with_reducible exact ih0 _ _ _ _)
   | (with_reducible exact ih1 _ _ _ _ _ _)
   | (with_reducible exact ih2 _ _ _ _)
   | (with_reducible exact magnetolaw05_awake.mono _)
   | (with_reducible exact magnetolaw05_ints.mono _ _ _)
   | (with_reducible exact stuff_Take.mono _ _)
   | (with_reducible exact LeO.refl _)
   | (with_reducible exact LeO.none _)
   | (with_reducible refine LeO.ite ?_ ?_)
   | (with_reducible refine LeO.bind ?_ (fun _ => ?_))
   | exact ih0 _ _ _ _
   | exact ih1 _ _ _ _ _ _
   | exact ih2 _ _ _ _
   | exact magnetolaw05_awake.mono _
   | exact magnetolaw05_ints.mono _ _ _
   | exact stuff_Take.mono _ _
   | exact LeO.none _
   | refine LeO.ite ?_ ?_
   | refine LeO.bind ?_ (fun _ => ?_)
theorem magnetolaw05_StuffTurned.mono : ∀ a0 a1 a2 k, LeO (magnetolaw05_StuffTurned.f k a0 a1 a2) (magnetolaw05_StuffTurned.f (k + 1) a0 a1 a2) := by
 intro a0 a1 a2 k
 obtain ⟨ih0, ih1, ih2⟩ := magnetolaw05_StuffTurned.mono_l k
 unfold magnetolaw05_StuffTurned.f
 repeat' first
   | (with_reducible exact ih0 _ _ _ _)
   | (with_reducible exact ih1 _ _ _ _ _ _)
   | (with_reducible exact ih2 _ _ _ _)
   | (with_reducible exact magnetolaw05_awake.mono _)
   | (with_reducible exact magnetolaw05_ints.mono _ _ _)
   | (with_reducible exact stuff_Take.mono _ _)
   | (with_reducible exact LeO.refl _)
   | (with_reducible exact LeO.none _)
   | (with_reducible refine LeO.ite ?_ ?_)
   | (with_reducible refine LeO.bind ?_ (fun _ => ?_))
   | exact ih0 _ _ _ _
   | exact ih1 _ _ _ _ _ _
   | exact ih2 _ _ _ _
   | exact magnetolaw05_awake.mono _
   | exact magnetolaw05_ints.mono _ _ _
   | exact stuff_Take.mono _ _
   | exact LeO.none _
   | refine LeO.ite ?_ ?_
   | refine LeO.bind ?_ (fun _ => ?_)
def magnetolaw05_StuffTurned.T18 : Bool × List (List Nat × List Nat) := (true, [([], []), ([], []), ([], []), ([1, 2], [1, 2]), ([0, 3], [0, 3]), ([], []), ([], []), ([6], [6]), ([5, 7], [5, 7]), ([4, 8, 4], [4, 8]), ([9, 9, 0, 1, 2, 3, 4, 5, 6, 7, 8, 9], [9])])
def magnetolaw05_StuffTurned.B18 : List Nat := [0, 0, 0, 6, 15, 0, 0, 64, 224, 511, 1023]
theorem magnetolaw05_StuffTurned.tab18 : rtab .any (opsOf Try.f11 18) = magnetolaw05_StuffTurned.T18 := by kernel_rfl
theorem magnetolaw05_StuffTurned.bits18 : waitsOk magnetolaw05_StuffTurned.T18.2 magnetolaw05_StuffTurned.B18 = true := by kernel_rfl
set_option maxHeartbeats 8000000 in
set_option maxRecDepth 100000 in
theorem magnetolaw05_StuffTurned.calls (k : Nat) (A0 : Option Addr) (c0 : Nat) (l0 : List Int) (A1 : Option Addr) (c1 : Nat) (l1 : List Int) (a2 : Int) (r : Bool) (w : World) (hr0 : Kd.C (Kd.int .i64) w A0 l0.length l0) (hc0 : l0.length ≤ c0) (hr1 : Kd.C (Kd.int .i64) w A1 l1.length l1) (hc1 : l1.length ≤ c1) (h : magnetolaw05_StuffTurned.f k l0 l1 a2 = some r) :
  Calls Try.prog 11 #[.slice A0 l0.length c0, .slice A1 l1.length c1, .int .i64 a2] w fun e w' => e = .returned (.bool r) ∧ Below w.heap.size w w' := by
 have HR0 := Aside0.mk hr0
 have HC0 := Aside0.mk hc0
 clear hr0 hc0
 have HR1 := Aside0.mk hr1
 have HC1 := Aside0.mk hc1
 clear hr1 hc1
 have HB := Aside0.mk (Below.refl w.heap.size w)
 have H : (if (l0.length : Int) > 300 then (magnetolaw05_StuffTurned.j0 k l0 l1 a2 true) else (if (l1.length : Int) > 10 then (magnetolaw05_StuffTurned.j0 k l0 l1 a2 true) else ((bits_Check.f l0).bind fun t529 => (magnetolaw05_StuffTurned.j0 k l0 l1 a2 (decide (t529 ≥ 0)))))) = some r := h
 clear h
 have HC4 := Aside0.mk H
 clear H
 go_enter Try.func11, Try.ntmps11
 go_upto_region 1 with (fail)
 go_cut [31] (fun v31 wc => ∃ (kq : Nat) (x31_3 : Bool), v31 = .bool x31_3 ∧ Aside0 (magnetolaw05_StuffTurned.j0 kq l0 l1 a2 x31_3 = some r) ∧ Aside0 (kq ≤ k) ∧ Aside0 (Below w.heap.size w wc))
 case first =>
  have H := HC4.out
  clear HC4
  by_cases c5 : (l0.length : Int) > 300
  ·
   rw [if_pos c5] at H
   have c5b0 : decide (300 < (l0.length : Int)) = true := decide_eq_true c5
   have c5b1 : decide (300 < l0.length) = true := decide_eq_true (by omega)
   clear c5
   (first | rw [c5b0] | (simp only [i64_w, i32_w]; rw [c5b0]) | skip)
   have H' := Aside0.mk H
   clear H
   go_wp2
   go_meet
   case rel => exact ⟨_, (true), (by first | rfl | (simp; done) | (simp [*]; done)), H', ⟨by first | omega | exact Nat.le_refl _⟩, ⟨by repeat (first | (with_reducible first | exact HB.out | apply below_alloc | apply pw_below_drewN | apply below_drew1) | exact HB.out)⟩⟩
  ·
   rw [if_neg c5] at H
   have c5b0 : decide (300 < (l0.length : Int)) = false := decide_eq_false c5
   have c5b1 : decide (300 < l0.length) = false := decide_eq_false (by omega)
   clear c5
   (first | rw [c5b0] | (simp only [i64_w, i32_w]; rw [c5b0]) | skip)
   by_cases c6 : (l1.length : Int) > 10
   ·
    rw [if_pos c6] at H
    have c6b0 : decide (10 < (l1.length : Int)) = true := decide_eq_true c6
    have c6b1 : decide (10 < l1.length) = true := decide_eq_true (by omega)
    clear c6
    have H' := Aside0.mk H
    clear H
    go_wp2
    go_meet
    case rel => exact ⟨_, (true), (by first | rfl | (simp; done) | (simp [*]; done)), H', ⟨by first | omega | exact Nat.le_refl _⟩, ⟨by repeat (first | (with_reducible first | exact HB.out | apply below_alloc | apply pw_below_drewN | apply below_drew1) | exact HB.out)⟩⟩
   ·
    rw [if_neg c6] at H
    have c6b0 : decide (10 < (l1.length : Int)) = false := decide_eq_false c6
    have c6b1 : decide (10 < l1.length) = false := decide_eq_false (by omega)
    clear c6
    replace H := Option.bind_eq_some_iff.mp H
    obtain ⟨t529, A70, H⟩ := H
    replace H : (magnetolaw05_StuffTurned.j0 k l0 l1 a2 (decide (t529 ≥ 0))) = some r := H
    have A7 := Aside0.mk A70
    clear A70
    have H' := Aside0.mk H
    clear H
    go_wp2_with (first | (go_at_call 32; (with_reducible refine (bits_Check.calls _ _ l0 t529 _ ?side1 ?side2 A7.out).mono ?_); (case side1 => repeat (first | exact (Kd.C_below HR0.out HB.out) | (with_reducible refine Kd.C_alloc ?_ _) | (with_reducible refine Kd.C_drewN ?_ _) | (with_reducible refine Kd.C_drew ?_))); (case side2 => exact HC0.out); rintro e w' ⟨rfl, ⟨nd, rfl⟩⟩))
    go_meet
    case rel => exact ⟨_, (decide (t529 ≥ 0)), (by first | rfl | (simp; done) | (simp [*]; done)), H', ⟨by first | omega | exact Nat.le_refl _⟩, ⟨by repeat (first | (with_reducible first | exact HB.out | apply below_alloc | apply pw_below_drewN | apply below_drew1) | exact HB.out)⟩⟩
 case rest =>
  clear HC4
  try clear c1
  try clear p2
  try clear c5
  try clear c5b0
  try clear c5b1
  try clear c6
  try clear c6b0
  try clear c6b1
  obtain ⟨kq, x31_3, rfl, HA, HJ3, HB⟩ := hcut
  cases kq with
  | zero => exact absurd HA.out (by simp [magnetolaw05_StuffTurned.j0])
  | succ kj3 =>
   have H := HA.out
   clear HA
   simp only [magnetolaw05_StuffTurned.j0] at H
   by_cases c8 : x31_3 = true
   ·
    subst c8
    have H1 : ((magnetolaw05_awake.f kj3).bind fun t530 => (some t530)) = some r := by rw [if_pos rfl] at H; exact H
    clear H
    have H := H1
    clear H1
    replace H := Option.bind_eq_some_iff.mp H
    obtain ⟨t530, A90, H⟩ := H
    replace H : (some t530) = some r := H
    have A9 := Aside0.mk A90
    clear A90
    obtain rfl := Option.some.inj H
    go_wp2_with (first | ((with_reducible refine gate_callee (f := 40) rfl ?_); refine goesL_ (some 32) rfl rfl Try.func40 (by kernel_rfl) rfl #[] rfl (by (try simp only [List.map_toArray, List.map_cons, List.map_nil]); first | done | rfl | (simp only [List.length_drop, List.length_take]; rfl)) ?_; (with_reducible refine (magnetolaw05_awake.calls kj3  t530 _ A9.out).mono ?_); rintro e w10 ⟨rfl, hb⟩; refine ⟨_, rfl, ?_⟩; have n0_ := Aside0.mk (below_step (by repeat (first | (with_reducible first | exact HB.out | apply below_alloc | apply pw_below_drewN | apply below_drew1) | exact HB.out)) hb); clear HB; have HB := n0_; clear n0_; (try clear hb); (try clear hb2); (try clear hk); (try clear hi)))
    go_ret
    exact ⟨by first | rfl | (simp [errW_none, errW_some] <;> rfl) | (simp [*, errW_none, errW_some] <;> rfl), by repeat (first | (with_reducible first | exact HB.out | apply below_alloc | apply pw_below_drewN | apply below_drew1) | exact HB.out)⟩
   ·
    replace c8 := Bool.eq_false_iff.mpr c8
    subst c8
    have H1 : ((stuff_Add.f l0).bind fun t531 => (if (t531.length : Int) < (l0.length : Int) then (none) else (if (t531.length : Int) = 0 then ((magnetolaw05_awake.f kj3).bind fun t534 => (some t534)) else ((some (([] : List Int) : List Int)).bind fun y535 => (if y535.length + t531.length < 17592186044416 then (magnetolaw05_StuffTurned.l0 kj3 l0 l1 a2 t531 (y535 ++ t531) 0) else (none)))))) = some r := by rw [if_neg (show ¬ (false = true) by decide)] at H; exact H
    clear H
    have H := H1
    clear H1
    replace H := Option.bind_eq_some_iff.mp H
    obtain ⟨t531, A110, H⟩ := H
    replace H : (if (t531.length : Int) < (l0.length : Int) then (none) else (if (t531.length : Int) = 0 then ((magnetolaw05_awake.f kj3).bind fun t534 => (some t534)) else ((some (([] : List Int) : List Int)).bind fun y535 => (if y535.length + t531.length < 17592186044416 then (magnetolaw05_StuffTurned.l0 kj3 l0 l1 a2 t531 (y535 ++ t531) 0) else (none))))) = some r := H
    have A11 := Aside0.mk A110
    clear A110
    by_cases c12 : (t531.length : Int) < (l0.length : Int)
    ·
     rw [if_pos c12] at H
     exact absurd H (by simp)
    ·
     rw [if_neg c12] at H
     have c12b0 : decide ((t531.length : Int) < (l0.length : Int)) = false := decide_eq_false c12
     have c12b1 : decide (t531.length < l0.length) = false := decide_eq_false (fun h => c12 (Int.ofNat_lt.mpr h))
     clear c12
     by_cases c13 : (t531.length : Int) = 0
     ·
      rw [if_pos c13] at H
      have c13b0 : ((t531.length : Int) == 0) = true := beq_iff_eq.mpr c13
      have c13b1 : ((t531.length : Int) != 0) = false := bne_eq_false_iff_eq.mpr c13
      clear c13
      replace H := Option.bind_eq_some_iff.mp H
      obtain ⟨t534, A140, H⟩ := H
      replace H : (some t534) = some r := H
      have A14 := Aside0.mk A140
      clear A140
      obtain rfl := Option.some.inj H
      go_wp2_with (first | ((with_reducible refine gate_callee (f := 43) rfl ?_); refine goesL_ (some 34) rfl rfl Try.func43 (by kernel_rfl) rfl #[.slice A0 l0.length c0] rfl (by (try simp only [List.map_toArray, List.map_cons, List.map_nil]); first | done | rfl | (simp only [List.length_drop, List.length_take]; rfl)) ?_; (with_reducible refine (stuff_Add.calls _ _ l0 t531 _ ?side1 ?side2 A11.out).mono ?_); (case side1 => repeat (first | exact (Kd.C_below HR0.out HB.out) | (with_reducible refine Kd.C_alloc ?_ _) | (with_reducible refine Kd.C_drewN ?_ _) | (with_reducible refine Kd.C_drew ?_))); (case side2 => exact HC0.out); rintro e w15 ⟨v532, rfl, ho0, hb⟩; refine ⟨_, rfl, ?_⟩; have n0_ := Aside0.mk (Kd.R_lower ho0 (below_size (by repeat (first | (with_reducible first | exact HB.out | apply below_alloc | apply pw_below_drewN | apply below_drew1) | exact HB.out)))); have n1_ := Aside0.mk (below_step (by repeat (first | (with_reducible first | exact HB.out | apply below_alloc | apply pw_below_drewN | apply below_drew1) | exact HB.out)) hb); clear HB; have HO533 := n0_; have HB := n1_; clear n0_ n1_; (try clear hb); (try clear hb2); (try clear hk); (try clear hi); (try clear ho0); obtain ⟨Ao16, co16, eo16⟩ := Kd.R_slice HO533.out; subst eo16) | ((with_reducible refine gate_callee (f := 40) rfl ?_); refine goesL_ (some 43) rfl rfl Try.func40 (by kernel_rfl) rfl #[] rfl (by (try simp only [List.map_toArray, List.map_cons, List.map_nil]); first | done | rfl | (simp only [List.length_drop, List.length_take]; rfl)) ?_; (with_reducible refine (magnetolaw05_awake.calls kj3  t534 _ A14.out).mono ?_); rintro e w17 ⟨rfl, hb⟩; refine ⟨_, rfl, ?_⟩; have n0_ := Aside0.mk (Kd.R_below (by (with_reducible repeat (first | apply Kd.R_alloc | apply Kd.R_drewN | apply Kd.R_drew)); exact HO533.out) hb); have n1_ := Aside0.mk (below_step (by repeat (first | (with_reducible first | exact HB.out | apply below_alloc | apply pw_below_drewN | apply below_drew1) | exact HB.out)) hb); clear HO533; clear HB; have HO533 := n0_; have HB := n1_; clear n0_ n1_; (try clear hb); (try clear hb2); (try clear hk); (try clear hi)))
      go_ret
      exact ⟨by first | rfl | (simp [errW_none, errW_some] <;> rfl) | (simp [*, errW_none, errW_some] <;> rfl), by repeat (first | (with_reducible first | exact HB.out | apply below_alloc | apply pw_below_drewN | apply below_drew1) | exact HB.out)⟩
     ·
      rw [if_neg c13] at H
      have c13b0 : ((t531.length : Int) == 0) = false := beq_eq_false_iff_ne.mpr c13
      have c13b1 : ((t531.length : Int) != 0) = true := bne_iff_ne.mpr c13
      have c13b2 : ¬ (t531 = []) := fun h_ => c13 (by rw [h_]; rfl)
      obtain ⟨y535, hy535⟩ : ∃ y_ : List Int, y_ = (([] : List Int)) := ⟨_, rfl⟩
      replace H : (if y535.length + t531.length < 17592186044416 then (magnetolaw05_StuffTurned.l0 kj3 l0 l1 a2 t531 (y535 ++ t531) 0) else (none)) = some r := by first | (rw [hy535]; with_reducible exact H) | (have H2_ := (Option.bind_some _ _).symm.trans H; rw [hy535]; with_reducible exact H2_) | (have H2_ := (Option.bind_some _ _).symm.trans H; with_reducible exact H2_) | with_reducible exact H | (rw [hy535]; exact H) | exact H
      have Ny535 := Aside0.mk hy535
      clear hy535
      by_cases c18 : y535.length + t531.length < 17592186044416
      ·
       rw [if_pos c18] at H
       have LMc18 := Aside0.mk c18
       clear c18
       obtain ⟨y538, hy538⟩ : ∃ y_ : List Int, y_ = (y535 ++ t531) := ⟨_, rfl⟩
       replace H : (magnetolaw05_StuffTurned.l0 kj3 l0 l1 a2 t531 y538 0) = some r := by first | (rw [hy538]; with_reducible exact H) | (have H2_ := (Option.bind_some _ _).symm.trans H; rw [hy538]; with_reducible exact H2_) | (have H2_ := (Option.bind_some _ _).symm.trans H; with_reducible exact H2_) | with_reducible exact H | (rw [hy538]; exact H) | exact H
       have Ny538 := Aside0.mk hy538
       clear hy538
       have H' := Aside0.mk H
       clear H
       go_wp2_with (first | ((with_reducible refine gate_callee (f := 43) rfl ?_); refine goesL_ (some 34) rfl rfl Try.func43 (by kernel_rfl) rfl #[.slice A0 l0.length c0] rfl (by (try simp only [List.map_toArray, List.map_cons, List.map_nil]); first | done | rfl | (simp only [List.length_drop, List.length_take]; rfl)) ?_; (with_reducible refine (stuff_Add.calls _ _ l0 t531 _ ?side1 ?side2 A11.out).mono ?_); (case side1 => repeat (first | exact (Kd.C_below HR0.out HB.out) | (with_reducible refine Kd.C_alloc ?_ _) | (with_reducible refine Kd.C_drewN ?_ _) | (with_reducible refine Kd.C_drew ?_))); (case side2 => exact HC0.out); rintro e w19 ⟨v532, rfl, ho0, hb⟩; refine ⟨_, rfl, ?_⟩; have n0_ := Aside0.mk (Kd.R_lower ho0 (below_size (by repeat (first | (with_reducible first | exact HB.out | apply below_alloc | apply pw_below_drewN | apply below_drew1) | exact HB.out)))); have n1_ := Aside0.mk (below_step (by repeat (first | (with_reducible first | exact HB.out | apply below_alloc | apply pw_below_drewN | apply below_drew1) | exact HB.out)) hb); clear HB; have HO533 := n0_; have HB := n1_; clear n0_ n1_; (try clear hb); (try clear hb2); (try clear hk); (try clear hi); (try clear ho0); obtain ⟨Ao20, co20, eo20⟩ := Kd.R_slice HO533.out; subst eo20) | ((with_reducible refine gate_dst (N := 44) rfl ?_); (try (refine gate_guard (by rfl) ?_; dsimp only)); refine Kd.R_lit (Kd.int .i64) _ 3 ?hg (N := 44) ?hd (xs := ([] : List Int)) (inner := []) (ok := fun _ => True) (okp := fun _ => True) ?hr ?hp (fun _ hk => hk) trivial (Below.refl _ _) (Nat.le_refl _) (by simp) ?_; (case hd => rfl); (case hg => rfl); (case hr => first | (go_simp; done) | (go_simp; rfl)); (case hp => exact (Reps.none _ _)); intro v536 w21 ho22 hb hg_ hnew_; clear hg_ hnew_; (first | rw [← Ny535.out] at ho22 | (simp only [Int.reduceToNat] at ho22; rw [← Ny535.out] at ho22)); have n0_ := Aside0.mk (Kd.R_elder' (by (with_reducible repeat (first | apply Kd.R_alloc | apply Kd.R_drewN | apply Kd.R_drew)); exact HO533.out) (Kd.R_base ho22) hb); have n1_ := Aside0.mk (Kd.R_lower (Kd.R_new' ho22 (Kd.R_lt (by (with_reducible repeat (first | apply Kd.R_alloc | apply Kd.R_drewN | apply Kd.R_drew)); exact HO533.out))) (below_size (by repeat (first | (with_reducible first | exact HB.out | apply below_alloc | apply pw_below_drewN | apply below_drew1) | exact HB.out)))); have n2_ := Aside0.mk (below_step (by repeat (first | (with_reducible first | exact HB.out | apply below_alloc | apply pw_below_drewN | apply below_drew1) | exact HB.out)) hb); clear HO533; clear HB; have HO533 := n0_; have HO537 := n1_; have HB := n2_; clear n0_ n1_ n2_; clear hb ho22) | ((with_reducible refine gate_builtin (b := .append) (xs := #[.tmp 44, .tmp 45]) rfl ?_); (try (refine gate_guard (by rfl) ?_; dsimp only)); at_builtin; refine Kd.R_append_rows (Kd.int .i64) (w0 := w) w.heap.size rfl (.tmp 44) (.tmp 45) 22 3 (.int .i64 0) 8 rfl Try.underlying22 info3 rfl (by decide) (by omega) v536 y535 t531 _ _ _ (fun k_ => some k_ ≠ (.slice Ao20 t531.length co20 : Value).ownBlock) (fun _ => False) rfl rfl ?aO ?aR (fun _ _ h => h) (fun _ h => h.elim) ?aF ?aB ?aS ?aL ?_; (case aR => repeat (first | exact (Kd.R_reads' HO533.out).2.2 | (with_reducible refine Kd.C_alloc ?_ _) | (with_reducible refine Kd.C_drewN ?_ _) | (with_reducible refine Kd.C_drew ?_))); (case aB => exact (by repeat (first | (with_reducible first | exact HB.out | apply below_alloc | apply pw_below_drewN | apply below_drew1) | exact HB.out))); (case aF => exact (fun k_ hk => Kd.fresh' (Kd.R_lt (by (with_reducible repeat (first | apply Kd.R_alloc | apply Kd.R_drewN | apply Kd.R_drew)); exact HO533.out)) k_ hk)); (case aO => exact (by (with_reducible repeat (first | apply Kd.R_alloc | apply Kd.R_drewN | apply Kd.R_drew)); exact Kd.R_mono HO537.out (fun _ hk => hk.2))); (case aS => exact (below_size (by repeat (first | (with_reducible first | exact HB.out | apply below_alloc | apply pw_below_drewN | apply below_drew1) | exact HB.out)))); (case aL => have := LMc18.out; omega); intro v539 w23 ho hb hg hat; rw [← Ny538.out] at ho; have n0_ := Aside0.mk (Kd.R_after (ok := (fun _ => True)) (by (with_reducible repeat (first | apply Kd.R_alloc | apply Kd.R_drewN | apply Kd.R_drew)); exact HO533.out) hg hat); have n1_ := Aside0.mk (hb); have n2_ := Aside0.mk (ho); clear HO533; clear HB; clear HO537; have HO533 := n0_; have HB := n1_; have HO540 := n2_; clear n0_ n1_ n2_; clear ho hb hg hat))
       go_loopg [9] kj3 (fun kq v9 w' => ∃ (x8_2 : List Int) (x9_2 : Int), v9 = .int .i64 x9_2 ∧ Aside0 (magnetolaw05_StuffTurned.l0 kq l0 l1 a2 t531 x8_2 x9_2 = some r) ∧ Aside0 (kq ≤ kj3) ∧ Aside0 (Kd.R (Kd.int .i64) 3 w' w.heap.size (fun k_ => some k_ ≠ (v539 : Value).ownBlock) (.slice Ao20 t531.length co20) t531) ∧ Aside0 (Kd.R (Kd.int .i64) 3 w' w.heap.size (fun k_ => some k_ ≠ ((.slice Ao20 t531.length co20) : Value).ownBlock) v539 x8_2) ∧ Aside0 (Below w.heap.size w w'))
       case atStart => exact ⟨(y538), (0), (by first | rfl | (simp; done) | (simp [*]; done)), H', ⟨Nat.le_refl _⟩, ⟨by (with_reducible repeat (first | apply Kd.R_alloc | apply Kd.R_drewN | apply Kd.R_drew)); exact Kd.R_mono HO533.out (fun _ hk => hk.2)⟩, ⟨by (with_reducible repeat (first | apply Kd.R_alloc | apply Kd.R_drewN | apply Kd.R_drew)); exact HO540.out⟩, ⟨by repeat (first | (with_reducible first | exact HB.out | apply below_alloc | apply pw_below_drewN | apply below_drew1) | exact HB.out)⟩⟩
       case round =>
        clear H'
        try clear c1
        try clear p2
        try clear c4
        try clear c5
        try clear c5b0
        try clear c5b1
        try clear c6
        try clear c6b0
        try clear c6b1
        try clear c8
        try clear c11
        try clear c12
        try clear c12b0
        try clear c12b1
        try clear c13
        try clear c13b0
        try clear c13b1
        try clear c13b2
        try clear c18
        try clear p2
        obtain ⟨x8_2, x9_2, rfl, HA, HK2, HO_7, HO_8, HB⟩ := hrel
        cases gk with
        | zero => exact absurd HA.out (by simp [magnetolaw05_StuffTurned.l0])
        | succ k2 =>
         have H := HA.out
         clear HA
         simp only [magnetolaw05_StuffTurned.l0] at H
         by_cases c24 : x9_2 < (l1.length : Int)
         ·
          rw [if_pos c24] at H
          have c24b0 : decide (x9_2 < (l1.length : Int)) = true := decide_eq_true c24
          clear c24
          by_cases c25 : 0 ≤ x9_2
          ·
           rw [if_pos c25] at H
           have c25b0 : decide (0 ≤ x9_2) = true := decide_eq_true c25
           clear c25
           by_cases c26 : (t531.length : Int) = 0
           ·
            rw [if_pos c26] at H
            exact absurd H (by simp)
           ·
            rw [if_neg c26] at H
            have c26b0 : ((t531.length : Int) == 0) = false := beq_eq_false_iff_ne.mpr c26
            have c26b1 : ((t531.length : Int) != 0) = true := bne_iff_ne.mpr c26
            have c26b2 : ¬ (t531 = []) := fun h_ => c26 (by rw [h_]; rfl)
            obtain ⟨ji27, hji27⟩ : ∃ j_ : Int, (Int.tmod (wrap64 ((Int.tmod (rd l1 x9_2) (t531.length : Int)) + (t531.length : Int))) (t531.length : Int)) = j_ := ⟨_, rfl⟩
            replace H : (if 0 ≤ (ji27) then (if (ji27) < (x8_2.length : Int) then (magnetolaw05_StuffTurned.l0 k2 l0 l1 a2 t531 (x8_2.set ((ji27) : Int).toNat (wrap64 (1 - (rd x8_2 (ji27))))) (wrap64 (x9_2 + 1))) else (none)) else (none)) = some r := by first | (rw [hji27] at H; exact H) | (simp only [hji27] at H ⊢; exact H)
            by_cases c28 : 0 ≤ (ji27)
            ·
             rw [if_pos c28] at H
             have c28b0 : decide (0 ≤ (ji27)) = true := decide_eq_true c28
             clear c28
             by_cases c29 : (ji27) < (x8_2.length : Int)
             ·
              rw [if_pos c29] at H
              have c29b0 : decide ((ji27) < (x8_2.length : Int)) = true := decide_eq_true c29
              clear c29
              obtain ⟨y543, hy543⟩ : ∃ y_ : List Int, y_ = (x8_2.set ((ji27) : Int).toNat (wrap64 (1 - (rd x8_2 (ji27))))) := ⟨_, rfl⟩
              replace H : (magnetolaw05_StuffTurned.l0 k2 l0 l1 a2 t531 y543 (wrap64 (x9_2 + 1))) = some r := by first | (rw [hy543]; with_reducible exact H) | (have H2_ := (Option.bind_some _ _).symm.trans H; rw [hy543]; with_reducible exact H2_) | (have H2_ := (Option.bind_some _ _).symm.trans H; with_reducible exact H2_) | with_reducible exact H | (rw [hy543]; exact H) | exact H
              have Ny543 := Aside0.mk hy543
              clear hy543
              have H' := Aside0.mk H
              clear H
              have p541 : 0 ≤ (x9_2 : Int) := of_decide_eq_true (by first | (with_reducible assumption) | assumption)
              have q541 : x9_2 < (l1.length : Int) := of_decide_eq_true (by first | (with_reducible assumption) | assumption)
              obtain ⟨ad541, e541, hx541_0⟩ := Kd.at_int HR1.out x9_2 p541 q541
              cases e541
              replace hx541_0 := (HB.out.cell (World.block_lt_of_cell? w _ hx541_0)).trans hx541_0
              replace p541 := eq_true p541
              replace q541 := eq_true q541
              obtain ⟨Ao31, co31, eo31⟩ := Kd.R_slice HO_8.out
              subst eo31
              have p542 : 0 ≤ ((ji27) : Int) := of_decide_eq_true (by first | (with_reducible assumption) | assumption)
              have q542 : (ji27) < (x8_2.length : Int) := of_decide_eq_true (by first | (with_reducible assumption) | assumption)
              obtain ⟨ad542, e542, hx542_0⟩ := Kd.at_int (Kd.R_reads' HO_8.out).2.2 (ji27) p542 q542
              cases e542
              replace p542 := eq_true p542
              replace q542 := eq_true q542
              have p30 : 0 ≤ ((ji27) : Int) := of_decide_eq_true (by first | (with_reducible assumption) | assumption)
              have q30 : ((ji27) : Int) < ((x8_2.length : Int) : Int) := of_decide_eq_true (by first | (with_reducible assumption) | assumption)
              obtain ⟨go30, co30, eo30, gb30, gl30, cl30, HG30⟩ := Kd.R_form HO_8.out (by omega)
              (first | cases eo30 | (injection eo30 with ea_ en_ ec_; (first | subst ea_ | (injection ea_ with ea_; subst ea_)); subst ec_; clear en_))
              have GB30 := Aside0.mk gb30
              have GG30 := Aside0.mk HG30
              clear gb30 gl30 HG30
              (first | simp only [add_plain] at hx542_0 | skip)
              obtain ⟨hx30_0, hf30_0⟩ := Kd.R_celln 0 HO_8.out ((ji27) : Int) p30 q30
              replace p30 := eq_true p30
              replace q30 := eq_true q30
              have HP32 := Kd.R_putg HO_8.out ((ji27) : Int) (wrap64 (1 - (rd x8_2 (ji27))))
              go_wp2_with (first | ((with_reducible refine gate_store (t := 3) (p := 73) rfl ?_); refine store_event (t := 3) (p := 73) (v := ?vo_w33) (w1 := (wr.setCell ⟨go30, ((ji27) : Int).toNat, none⟩ (.int .i64 (wrap64 (1 - (rd x8_2 (ji27))))))) ?hg ?ho ?hn ?hr ?_; (case ho => rfl); (case hg => rfl); (case hn => rfl); (case hr => first | (go_simp; done) | (go_simp; rfl)); intro w33 hw; have hg : wr.grownBy w33 (some go30) := (by rw [hw]; exact HP32.2); have hp_ : Kd.R (Kd.int .i64) 3 w33 w.heap.size (fun k_ => some k_ ≠ (.slice Ao20 t531.length co20 : Value).ownBlock) (.slice (some ⟨go30, 0, none⟩) x8_2.length co31) y543 := (by rw [hw, Ny543.out]; exact HP32.1); clear HP32; have n0_ := Aside0.mk (Kd.R_after (v := (.slice (some ⟨go30, 0, none⟩) x8_2.length co31)) (v1 := (.slice (some ⟨go30, 0, none⟩) x8_2.length co31)) (ok := (fun _ => True)) (by (with_reducible repeat (first | apply Kd.R_alloc | apply Kd.R_drewN | apply Kd.R_drew)); exact Kd.R_mono HO_7.out (fun _ hk => ⟨trivial, hk⟩)) hg (.inl rfl)); have n1_ := Aside0.mk (hp_); have n2_ := Aside0.mk ((by rw [hw]; exact below_set (HB.out) GB30.out : Below w.heap.size w w33)); clear HO_7; clear HO_8; clear HB; have HO_7 := n0_; have HO_8 := n1_; have HB := n2_; clear n0_ n1_ n2_; clear hg hw hp_))
              go_roundg k2
              case measure => have := HJ3.out; have := HK2.out; omega
              case rel => exact ⟨(y543), (wrap64 (x9_2 + 1)), (by first | rfl | (simp; done) | (simp [*]; done)), H', ⟨by have := HJ3.out; have := HK2.out; omega⟩, ⟨by (with_reducible repeat (first | apply Kd.R_alloc | apply Kd.R_drewN | apply Kd.R_drew)); exact Kd.R_mono HO_7.out (fun _ hk => hk.2)⟩, ⟨by (with_reducible repeat (first | apply Kd.R_alloc | apply Kd.R_drewN | apply Kd.R_drew)); exact HO_8.out⟩, ⟨by repeat (first | (with_reducible first | exact HB.out | apply below_alloc | apply pw_below_drewN | apply below_drew1) | exact HB.out)⟩⟩
             ·
              rw [if_neg c29] at H
              exact absurd H (by simp)
            ·
             rw [if_neg c28] at H
             exact absurd H (by simp)
          ·
           rw [if_neg c25] at H
           exact absurd H (by simp)
         ·
          rw [if_neg c24] at H
          have c24b0 : decide (x9_2 < (l1.length : Int)) = false := decide_eq_false c24
          clear c24
          replace H := Option.bind_eq_some_iff.mp H
          obtain ⟨⟨t544, t545, t546⟩, A340, H⟩ := H
          replace H : (if t546 = 0 then ((magnetolaw05_ints.f k2 t544 l0).bind fun t549 => ((magnetolaw05_ints.f k2 x8_2 t531).bind fun t550 => (if (t549 != t550) = true then (none) else (magnetolaw05_StuffTurned.j2 k2 l0 a2 t531 false)))) else (if t545 < 0 then (none) else (if t545 > (x8_2.length : Int) then (none) else (if (t544.length : Int) = 0 then ((magnetolaw05_ints.f k2 x8_2 t531).bind fun t551 => (magnetolaw05_StuffTurned.j2 k2 l0 a2 t531 t551)) else (none))))) = some r := H
          have A34 := Aside0.mk A340
          clear A340
          have HC35 := Aside0.mk H
          clear H
          obtain ⟨Ao36, co36, eo36⟩ := Kd.R_slice HO_8.out
          subst eo36
          go_upto_region 15 with (first | ((with_reducible refine gate_callee (f := 46) rfl ?_); refine goesL_ (some 76) rfl rfl Try.func46 (by kernel_rfl) rfl #[.slice Ao36 x8_2.length co36] rfl (by (try simp only [List.map_toArray, List.map_cons, List.map_nil]); first | done | rfl | (simp only [List.length_drop, List.length_take]; rfl)) ?_; (with_reducible refine (stuff_Take.calls k2 _ _ x8_2 t544 t545 t546 _ ?side1 ?side2 A34.out).mono ?_); (case side1 => repeat (first | exact (Kd.R_reads' HO_8.out).2.2 | (with_reducible refine Kd.C_alloc ?_ _) | (with_reducible refine Kd.C_drewN ?_ _) | (with_reducible refine Kd.C_drew ?_))); (case side2 => exact (Kd.R_reads' HO_8.out).2.1); rintro e w37 ⟨v547, rfl, ho0, hb⟩; refine ⟨_, rfl, ?_⟩; have n0_ := Aside0.mk (Kd.R_elder' (by (with_reducible repeat (first | apply Kd.R_alloc | apply Kd.R_drewN | apply Kd.R_drew)); exact HO_7.out) (Kd.R_base ho0) hb); have n1_ := Aside0.mk (Kd.R_elder' (by (with_reducible repeat (first | apply Kd.R_alloc | apply Kd.R_drewN | apply Kd.R_drew)); exact HO_8.out) (Kd.R_base ho0) hb); have n2_ := Aside0.mk (Kd.R_lower (Kd.R_new' (Kd.R_new' ho0 (Kd.R_lt (by (with_reducible repeat (first | apply Kd.R_alloc | apply Kd.R_drewN | apply Kd.R_drew)); exact HO_7.out))) (Kd.R_lt (by (with_reducible repeat (first | apply Kd.R_alloc | apply Kd.R_drewN | apply Kd.R_drew)); exact HO_8.out))) (below_size (by repeat (first | (with_reducible first | exact HB.out | apply below_alloc | apply pw_below_drewN | apply below_drew1) | exact HB.out)))); have n3_ := Aside0.mk (below_step (by repeat (first | (with_reducible first | exact HB.out | apply below_alloc | apply pw_below_drewN | apply below_drew1) | exact HB.out)) hb); clear HO_7; clear HO_8; clear HB; have HO_7 := n0_; have HO_8 := n1_; have HO548 := n2_; have HB := n3_; clear n0_ n1_ n2_ n3_; (try clear hb); (try clear hb2); (try clear hk); (try clear hi); (try clear ho0)))
          (try simp only [Act.put, List.setIfInBounds_toArray, List.set_cons_zero, List.set_cons_succ])
          go_cut [118] (fun v118 wc => ∃ (kq : Nat) (x118_34 : Bool), v118 = .bool x118_34 ∧ Aside0 (magnetolaw05_StuffTurned.j2 kq l0 a2 t531 x118_34 = some r) ∧ Aside0 (kq ≤ k2) ∧ Aside0 (Kd.R (Kd.int .i64) 3 wc w.heap.size (fun _ => True) (.slice Ao20 t531.length co20) t531) ∧ Aside0 (Below w.heap.size w wc))
          case first =>
           have H := HC35.out
           clear HC35
           by_cases c38 : t546 = 0
           ·
            rw [if_pos c38] at H
            have c38b0 : (t546 == 0) = true := beq_iff_eq.mpr c38
            have c38b1 : (t546 != 0) = false := bne_eq_false_iff_eq.mpr c38
            clear c38
            (first | rw [c38b0] | (simp only [i64_w, i32_w]; rw [c38b0]) | skip)
            replace H := Option.bind_eq_some_iff.mp H
            obtain ⟨t549, A390, H⟩ := H
            replace H : ((magnetolaw05_ints.f k2 x8_2 t531).bind fun t550 => (if (t549 != t550) = true then (none) else (magnetolaw05_StuffTurned.j2 k2 l0 a2 t531 false))) = some r := H
            have A39 := Aside0.mk A390
            clear A390
            replace H := Option.bind_eq_some_iff.mp H
            obtain ⟨t550, A400, H⟩ := H
            replace H : (if (t549 != t550) = true then (none) else (magnetolaw05_StuffTurned.j2 k2 l0 a2 t531 false)) = some r := H
            have A40 := Aside0.mk A400
            clear A400
            by_cases c41 : (t549 != t550) = true
            ·
             rw [if_pos c41] at H
             exact absurd H (by simp)
            ·
             rw [if_neg c41] at H
             have c41b0 : (t549 != t550) = false := by simpa using c41
             (try (have c41b1 : decide (t549 = t550) = true := by simpa using c41))
             (try (have c41b2 : (t549 == t550) = true := by simpa using c41))
             clear c41
             have H' := Aside0.mk H
             clear H
             obtain ⟨Ao42, co42, eo42⟩ := Kd.R_slice HO548.out
             subst eo42
             go_wp2_with (first | (go_at_call 42; (with_reducible refine (magnetolaw05_ints.calls k2 _ _ t544 _ _ l0 t549 _ ?side1 ?side2 ?side3 ?side4 A39.out).mono ?_); (case side1 => repeat (first | exact (Kd.R_reads' HO548.out).2.2 | (with_reducible refine Kd.C_alloc ?_ _) | (with_reducible refine Kd.C_drewN ?_ _) | (with_reducible refine Kd.C_drew ?_))); (case side2 => exact (Kd.R_reads' HO548.out).2.1); (case side3 => repeat (first | exact (Kd.C_below HR0.out HB.out) | (with_reducible refine Kd.C_alloc ?_ _) | (with_reducible refine Kd.C_drewN ?_ _) | (with_reducible refine Kd.C_drew ?_))); (case side4 => exact HC0.out); rintro e w' ⟨rfl, ⟨nd, rfl⟩⟩) | (go_at_call 42; (with_reducible refine (magnetolaw05_ints.calls k2 _ _ x8_2 _ _ t531 t550 _ ?side1 ?side2 ?side3 ?side4 A40.out).mono ?_); (case side1 => repeat (first | exact (Kd.R_reads' HO_8.out).2.2 | (with_reducible refine Kd.C_alloc ?_ _) | (with_reducible refine Kd.C_drewN ?_ _) | (with_reducible refine Kd.C_drew ?_))); (case side2 => exact (Kd.R_reads' HO_8.out).2.1); (case side3 => repeat (first | exact (Kd.R_reads' HO_7.out).2.2 | (with_reducible refine Kd.C_alloc ?_ _) | (with_reducible refine Kd.C_drewN ?_ _) | (with_reducible refine Kd.C_drew ?_))); (case side4 => exact (Kd.R_reads' HO_7.out).2.1); rintro e w' ⟨rfl, ⟨nd, rfl⟩⟩))
             go_meet
             case rel => exact ⟨_, (false), (by first | rfl | (simp; done) | (simp [*]; done)), H', ⟨by have := HJ3.out; have := HK2.out; first | omega | exact Nat.le_refl _⟩, ⟨by (with_reducible repeat (first | apply Kd.R_alloc | apply Kd.R_drewN | apply Kd.R_drew)); exact Kd.R_mono HO_7.out (fun _ hk => trivial)⟩, ⟨by repeat (first | (with_reducible first | exact HB.out | apply below_alloc | apply pw_below_drewN | apply below_drew1) | exact HB.out)⟩⟩
           ·
            rw [if_neg c38] at H
            have c38b0 : (t546 == 0) = false := beq_eq_false_iff_ne.mpr c38
            have c38b1 : (t546 != 0) = true := bne_iff_ne.mpr c38
            (first | rw [c38b0] | (simp only [i64_w, i32_w]; rw [c38b0]) | skip)
            by_cases c43 : t545 < 0
            ·
             rw [if_pos c43] at H
             exact absurd H (by simp)
            ·
             rw [if_neg c43] at H
             have c43b0 : decide (t545 < 0) = false := decide_eq_false c43
             clear c43
             by_cases c44 : t545 > (x8_2.length : Int)
             ·
              rw [if_pos c44] at H
              exact absurd H (by simp)
             ·
              rw [if_neg c44] at H
              have c44b0 : decide ((x8_2.length : Int) < t545) = false := decide_eq_false c44
              clear c44
              by_cases c45 : (t544.length : Int) = 0
              ·
               rw [if_pos c45] at H
               have c45b0 : ((t544.length : Int) == 0) = true := beq_iff_eq.mpr c45
               have c45b1 : ((t544.length : Int) != 0) = false := bne_eq_false_iff_eq.mpr c45
               clear c45
               replace H := Option.bind_eq_some_iff.mp H
               obtain ⟨t551, A460, H⟩ := H
               replace H : (magnetolaw05_StuffTurned.j2 k2 l0 a2 t531 t551) = some r := H
               have A46 := Aside0.mk A460
               clear A460
               have H' := Aside0.mk H
               clear H
               obtain ⟨Ao47, co47, eo47⟩ := Kd.R_slice HO548.out
               subst eo47
               go_wp2_with (first | (go_at_call 42; (with_reducible refine (magnetolaw05_ints.calls k2 _ _ x8_2 _ _ t531 t551 _ ?side1 ?side2 ?side3 ?side4 A46.out).mono ?_); (case side1 => repeat (first | exact (Kd.R_reads' HO_8.out).2.2 | (with_reducible refine Kd.C_alloc ?_ _) | (with_reducible refine Kd.C_drewN ?_ _) | (with_reducible refine Kd.C_drew ?_))); (case side2 => exact (Kd.R_reads' HO_8.out).2.1); (case side3 => repeat (first | exact (Kd.R_reads' HO_7.out).2.2 | (with_reducible refine Kd.C_alloc ?_ _) | (with_reducible refine Kd.C_drewN ?_ _) | (with_reducible refine Kd.C_drew ?_))); (case side4 => exact (Kd.R_reads' HO_7.out).2.1); rintro e w' ⟨rfl, ⟨nd, rfl⟩⟩))
               go_meet
               case rel => exact ⟨_, (t551), (by first | rfl | (simp; done) | (simp [*]; done)), H', ⟨by have := HJ3.out; have := HK2.out; first | omega | exact Nat.le_refl _⟩, ⟨by (with_reducible repeat (first | apply Kd.R_alloc | apply Kd.R_drewN | apply Kd.R_drew)); exact Kd.R_mono HO_7.out (fun _ hk => trivial)⟩, ⟨by repeat (first | (with_reducible first | exact HB.out | apply below_alloc | apply pw_below_drewN | apply below_drew1) | exact HB.out)⟩⟩
              ·
               rw [if_neg c45] at H
               exact absurd H (by simp)
          case rest =>
           clear HC35
           try clear c1
           try clear c2
           try clear p2
           try clear c3
           try clear p3
           try clear q3
           try clear hx3
           try clear hf3
           try clear c4
           try clear c5
           try clear c5b0
           try clear c5b1
           try clear p5
           try clear q5
           try clear hx5
           try clear c6
           try clear c6b0
           try clear c6b1
           try clear p6
           try clear c8
           try clear c11
           try clear c12
           try clear c12b0
           try clear c12b1
           try clear c13
           try clear c13b0
           try clear c13b1
           try clear c13b2
           try clear c18
           try clear c24
           try clear c24b0
           try clear c25
           try clear c25b0
           try clear c26
           try clear c26b0
           try clear c26b1
           try clear c26b2
           try clear c28
           try clear c28b0
           try clear c29
           try clear c29b0
           try clear p30
           try clear q30
           try clear hx30
           try clear hf30
           try clear c38
           try clear c38b0
           try clear c38b1
           try clear c40
           try clear c41
           try clear c41b0
           try clear c41b1
           try clear c41b2
           try clear c43
           try clear c43b0
           try clear c44
           try clear c44b0
           try clear c45
           try clear c45b0
           try clear c45b1
           try clear c46
           try clear hx30_0
           try clear hx541_0
           try clear hx542_0
           try clear p2
           try clear p30
           try clear p541
           try clear p542
           try clear q30
           try clear q541
           try clear q542
           obtain ⟨kq, x118_34, rfl, HA, HJ34, HO_7, HB⟩ := hcut
           cases kq with
           | zero => exact absurd HA.out (by simp [magnetolaw05_StuffTurned.j2])
           | succ kj34 =>
            have H := HA.out
            clear HA
            simp only [magnetolaw05_StuffTurned.j2] at H
            by_cases c48 : x118_34 = true
            ·
             subst c48
             have H1 : (none) = some r := by rw [if_pos rfl] at H; exact H
             clear H
             have H := H1
             clear H1
             exact absurd H (by simp)
            ·
             replace c48 := Bool.eq_false_iff.mpr c48
             subst c48
             have H1 : (if (t531.length : Int) = 0 then (none) else ((some (([] : List Int) : List Int)).bind fun y552 => (if 0 ≤ (Int.tmod (wrap64 ((Int.tmod a2 (t531.length : Int)) + (t531.length : Int))) (t531.length : Int)) then (if (Int.tmod (wrap64 ((Int.tmod a2 (t531.length : Int)) + (t531.length : Int))) (t531.length : Int)) ≤ (t531.length : Int) then ((some (t531.take ((Int.tmod (wrap64 ((Int.tmod a2 (t531.length : Int)) + (t531.length : Int))) (t531.length : Int)) : Int).toNat : List Int)).bind fun y555 => (if y552.length + y555.length < 17592186044416 then ((some (y552 ++ y555 : List Int)).bind fun y559 => (if 0 ≤ (wrap64 ((Int.tmod (wrap64 ((Int.tmod a2 (t531.length : Int)) + (t531.length : Int))) (t531.length : Int)) + 1)) then (if (wrap64 ((Int.tmod (wrap64 ((Int.tmod a2 (t531.length : Int)) + (t531.length : Int))) (t531.length : Int)) + 1)) ≤ (t531.length : Int) then ((some (t531.drop ((wrap64 ((Int.tmod (wrap64 ((Int.tmod a2 (t531.length : Int)) + (t531.length : Int))) (t531.length : Int)) + 1)) : Int).toNat : List Int)).bind fun y562 => (if y559.length + y562.length < 17592186044416 then ((stuff_Take.f kj34 (y559 ++ y562)).bind fun bt569 => (if bt569.2.2 = 0 then ((magnetolaw05_ints.f kj34 bt569.1 l0).bind fun t574 => (if t574 = true then (none) else ((magnetolaw05_awake.f kj34).bind fun t575 => (some t575)))) else ((magnetolaw05_awake.f kj34).bind fun t576 => (some t576)))) else (none))) else (none)) else (none))) else (none))) else (none)) else (none)))) = some r := by rw [if_neg (show ¬ (false = true) by decide)] at H; exact H
             clear H
             have H := H1
             clear H1
             by_cases c49 : (t531.length : Int) = 0
             ·
              rw [if_pos c49] at H
              exact absurd H (by simp)
             ·
              rw [if_neg c49] at H
              have c49b0 : ((t531.length : Int) == 0) = false := beq_eq_false_iff_ne.mpr c49
              have c49b1 : ((t531.length : Int) != 0) = true := bne_iff_ne.mpr c49
              have c49b2 : ¬ (t531 = []) := fun h_ => c49 (by rw [h_]; rfl)
              obtain ⟨y552, hy552⟩ : ∃ y_ : List Int, y_ = (([] : List Int)) := ⟨_, rfl⟩
              replace H : (if 0 ≤ (Int.tmod (wrap64 ((Int.tmod a2 (t531.length : Int)) + (t531.length : Int))) (t531.length : Int)) then (if (Int.tmod (wrap64 ((Int.tmod a2 (t531.length : Int)) + (t531.length : Int))) (t531.length : Int)) ≤ (t531.length : Int) then ((some (t531.take ((Int.tmod (wrap64 ((Int.tmod a2 (t531.length : Int)) + (t531.length : Int))) (t531.length : Int)) : Int).toNat : List Int)).bind fun y555 => (if y552.length + y555.length < 17592186044416 then ((some (y552 ++ y555 : List Int)).bind fun y559 => (if 0 ≤ (wrap64 ((Int.tmod (wrap64 ((Int.tmod a2 (t531.length : Int)) + (t531.length : Int))) (t531.length : Int)) + 1)) then (if (wrap64 ((Int.tmod (wrap64 ((Int.tmod a2 (t531.length : Int)) + (t531.length : Int))) (t531.length : Int)) + 1)) ≤ (t531.length : Int) then ((some (t531.drop ((wrap64 ((Int.tmod (wrap64 ((Int.tmod a2 (t531.length : Int)) + (t531.length : Int))) (t531.length : Int)) + 1)) : Int).toNat : List Int)).bind fun y562 => (if y559.length + y562.length < 17592186044416 then ((stuff_Take.f kj34 (y559 ++ y562)).bind fun bt569 => (if bt569.2.2 = 0 then ((magnetolaw05_ints.f kj34 bt569.1 l0).bind fun t574 => (if t574 = true then (none) else ((magnetolaw05_awake.f kj34).bind fun t575 => (some t575)))) else ((magnetolaw05_awake.f kj34).bind fun t576 => (some t576)))) else (none))) else (none)) else (none))) else (none))) else (none)) else (none)) = some r := by first | (rw [hy552]; with_reducible exact H) | (have H2_ := (Option.bind_some _ _).symm.trans H; rw [hy552]; with_reducible exact H2_) | (have H2_ := (Option.bind_some _ _).symm.trans H; with_reducible exact H2_) | with_reducible exact H | (rw [hy552]; exact H) | exact H
              have Ny552 := Aside0.mk hy552
              clear hy552
              obtain ⟨ji50, hji50⟩ : ∃ j_ : Int, (Int.tmod (wrap64 ((Int.tmod a2 (t531.length : Int)) + (t531.length : Int))) (t531.length : Int)) = j_ := ⟨_, rfl⟩
              replace H : (if 0 ≤ (ji50) then (if (ji50) ≤ (t531.length : Int) then ((some (t531.take ((ji50) : Int).toNat : List Int)).bind fun y555 => (if y552.length + y555.length < 17592186044416 then ((some (y552 ++ y555 : List Int)).bind fun y559 => (if 0 ≤ (wrap64 ((ji50) + 1)) then (if (wrap64 ((ji50) + 1)) ≤ (t531.length : Int) then ((some (t531.drop ((wrap64 ((ji50) + 1)) : Int).toNat : List Int)).bind fun y562 => (if y559.length + y562.length < 17592186044416 then ((stuff_Take.f kj34 (y559 ++ y562)).bind fun bt569 => (if bt569.2.2 = 0 then ((magnetolaw05_ints.f kj34 bt569.1 l0).bind fun t574 => (if t574 = true then (none) else ((magnetolaw05_awake.f kj34).bind fun t575 => (some t575)))) else ((magnetolaw05_awake.f kj34).bind fun t576 => (some t576)))) else (none))) else (none)) else (none))) else (none))) else (none)) else (none)) = some r := by first | (rw [hji50] at H; exact H) | (simp only [hji50] at H ⊢; exact H)
              by_cases c51 : 0 ≤ (ji50)
              ·
               rw [if_pos c51] at H
               have c51b0 := eq_true c51
               have c51b1 : decide (0 ≤ (ji50)) = true := decide_eq_true c51
               clear c51
               by_cases c52 : (ji50) ≤ (t531.length : Int)
               ·
                rw [if_pos c52] at H
                have c52b0 := eq_true c52
                have c52b1 : decide ((ji50) ≤ (t531.length : Int)) = true := decide_eq_true c52
                clear c52
                obtain ⟨y555, hy555⟩ : ∃ y_ : List Int, y_ = (t531.take ((ji50) : Int).toNat) := ⟨_, rfl⟩
                replace H : (if y552.length + y555.length < 17592186044416 then ((some (y552 ++ y555 : List Int)).bind fun y559 => (if 0 ≤ (wrap64 ((ji50) + 1)) then (if (wrap64 ((ji50) + 1)) ≤ (t531.length : Int) then ((some (t531.drop ((wrap64 ((ji50) + 1)) : Int).toNat : List Int)).bind fun y562 => (if y559.length + y562.length < 17592186044416 then ((stuff_Take.f kj34 (y559 ++ y562)).bind fun bt569 => (if bt569.2.2 = 0 then ((magnetolaw05_ints.f kj34 bt569.1 l0).bind fun t574 => (if t574 = true then (none) else ((magnetolaw05_awake.f kj34).bind fun t575 => (some t575)))) else ((magnetolaw05_awake.f kj34).bind fun t576 => (some t576)))) else (none))) else (none)) else (none))) else (none)) = some r := by first | (rw [hy555]; with_reducible exact H) | (have H2_ := (Option.bind_some _ _).symm.trans H; rw [hy555]; with_reducible exact H2_) | (have H2_ := (Option.bind_some _ _).symm.trans H; with_reducible exact H2_) | with_reducible exact H | (rw [hy555]; exact H) | exact H
                have Ny555 := Aside0.mk hy555
                clear hy555
                by_cases c53 : y552.length + y555.length < 17592186044416
                ·
                 rw [if_pos c53] at H
                 have LMc53 := Aside0.mk c53
                 clear c53
                 obtain ⟨y559, hy559⟩ : ∃ y_ : List Int, y_ = (y552 ++ y555) := ⟨_, rfl⟩
                 replace H : (if 0 ≤ (wrap64 ((ji50) + 1)) then (if (wrap64 ((ji50) + 1)) ≤ (t531.length : Int) then ((some (t531.drop ((wrap64 ((ji50) + 1)) : Int).toNat : List Int)).bind fun y562 => (if y559.length + y562.length < 17592186044416 then ((stuff_Take.f kj34 (y559 ++ y562)).bind fun bt569 => (if bt569.2.2 = 0 then ((magnetolaw05_ints.f kj34 bt569.1 l0).bind fun t574 => (if t574 = true then (none) else ((magnetolaw05_awake.f kj34).bind fun t575 => (some t575)))) else ((magnetolaw05_awake.f kj34).bind fun t576 => (some t576)))) else (none))) else (none)) else (none)) = some r := by first | (rw [hy559]; with_reducible exact H) | (have H2_ := (Option.bind_some _ _).symm.trans H; rw [hy559]; with_reducible exact H2_) | (have H2_ := (Option.bind_some _ _).symm.trans H; with_reducible exact H2_) | with_reducible exact H | (rw [hy559]; exact H) | exact H
                 have Ny559 := Aside0.mk hy559
                 clear hy559
                 obtain ⟨ji54, hji54⟩ : ∃ j_ : Int, (wrap64 ((ji50) + 1)) = j_ := ⟨_, rfl⟩
                 replace H : (if 0 ≤ (ji54) then (if (ji54) ≤ (t531.length : Int) then ((some (t531.drop ((ji54) : Int).toNat : List Int)).bind fun y562 => (if y559.length + y562.length < 17592186044416 then ((stuff_Take.f kj34 (y559 ++ y562)).bind fun bt569 => (if bt569.2.2 = 0 then ((magnetolaw05_ints.f kj34 bt569.1 l0).bind fun t574 => (if t574 = true then (none) else ((magnetolaw05_awake.f kj34).bind fun t575 => (some t575)))) else ((magnetolaw05_awake.f kj34).bind fun t576 => (some t576)))) else (none))) else (none)) else (none)) = some r := by first | (rw [hji54] at H; exact H) | (simp only [hji54] at H ⊢; exact H)
                 have hji54w : (IntKind.i64.wrap ((ji50) + 1)) = ji54 := (i64_w _).trans hji54
                 by_cases c55 : 0 ≤ (ji54)
                 ·
                  rw [if_pos c55] at H
                  have c55b0 := eq_true c55
                  have c55b1 : decide (0 ≤ (ji54)) = true := decide_eq_true c55
                  clear c55
                  by_cases c56 : (ji54) ≤ (t531.length : Int)
                  ·
                   rw [if_pos c56] at H
                   have c56b0 := eq_true c56
                   have c56b1 : decide ((ji54) ≤ (t531.length : Int)) = true := decide_eq_true c56
                   clear c56
                   obtain ⟨y562, hy562⟩ : ∃ y_ : List Int, y_ = (t531.drop ((ji54) : Int).toNat) := ⟨_, rfl⟩
                   replace H : (if y559.length + y562.length < 17592186044416 then ((stuff_Take.f kj34 (y559 ++ y562)).bind fun bt569 => (if bt569.2.2 = 0 then ((magnetolaw05_ints.f kj34 bt569.1 l0).bind fun t574 => (if t574 = true then (none) else ((magnetolaw05_awake.f kj34).bind fun t575 => (some t575)))) else ((magnetolaw05_awake.f kj34).bind fun t576 => (some t576)))) else (none)) = some r := by first | (rw [hy562]; with_reducible exact H) | (have H2_ := (Option.bind_some _ _).symm.trans H; rw [hy562]; with_reducible exact H2_) | (have H2_ := (Option.bind_some _ _).symm.trans H; with_reducible exact H2_) | with_reducible exact H | (rw [hy562]; exact H) | exact H
                   have Ny562 := Aside0.mk hy562
                   clear hy562
                   by_cases c57 : y559.length + y562.length < 17592186044416
                   ·
                    rw [if_pos c57] at H
                    have LMc57 := Aside0.mk c57
                    clear c57
                    obtain ⟨y566, hy566⟩ : ∃ y_ : List Int, y_ = (y559 ++ y562) := ⟨_, rfl⟩
                    replace H : ((stuff_Take.f kj34 y566).bind fun bt569 => (if bt569.2.2 = 0 then ((magnetolaw05_ints.f kj34 bt569.1 l0).bind fun t574 => (if t574 = true then (none) else ((magnetolaw05_awake.f kj34).bind fun t575 => (some t575)))) else ((magnetolaw05_awake.f kj34).bind fun t576 => (some t576)))) = some r := by first | (rw [hy566]; with_reducible exact H) | (have H2_ := (Option.bind_some _ _).symm.trans H; rw [hy566]; with_reducible exact H2_) | (have H2_ := (Option.bind_some _ _).symm.trans H; with_reducible exact H2_) | with_reducible exact H | (rw [hy566]; exact H) | exact H
                    have Ny566 := Aside0.mk hy566
                    clear hy566
                    replace H := Option.bind_eq_some_iff.mp H
                    obtain ⟨⟨t569, t570, t571⟩, A580, H⟩ := H
                    replace H : (if t571 = 0 then ((magnetolaw05_ints.f kj34 t569 l0).bind fun t574 => (if t574 = true then (none) else ((magnetolaw05_awake.f kj34).bind fun t575 => (some t575)))) else ((magnetolaw05_awake.f kj34).bind fun t576 => (some t576))) = some r := H
                    have A58 := Aside0.mk A580
                    clear A580
                    by_cases c59 : t571 = 0
                    ·
                     rw [if_pos c59] at H
                     have c59b0 : (t571 == 0) = true := beq_iff_eq.mpr c59
                     have c59b1 : (t571 != 0) = false := bne_eq_false_iff_eq.mpr c59
                     clear c59
                     replace H := Option.bind_eq_some_iff.mp H
                     obtain ⟨t574, A600, H⟩ := H
                     replace H : (if t574 = true then (none) else ((magnetolaw05_awake.f kj34).bind fun t575 => (some t575))) = some r := H
                     have A60 := Aside0.mk A600
                     clear A600
                     by_cases c61 : t574 = true
                     ·
                      subst c61
                      have H1 : (none) = some r := by rw [if_pos rfl] at H; exact H
                      clear H
                      have H := H1
                      clear H1
                      exact absurd H (by simp)
                     ·
                      replace c61 := Bool.eq_false_iff.mpr c61
                      subst c61
                      have H1 : ((magnetolaw05_awake.f kj34).bind fun t575 => (some t575)) = some r := by rw [if_neg (show ¬ (false = true) by decide)] at H; exact H
                      clear H
                      have H := H1
                      clear H1
                      replace H := Option.bind_eq_some_iff.mp H
                      obtain ⟨t575, A620, H⟩ := H
                      replace H : (some t575) = some r := H
                      have A62 := Aside0.mk A620
                      clear A620
                      obtain rfl := Option.some.inj H
                      try go_wp2
                      have n0_ := Aside0.mk (Kd.R_drew HO_7.out)
                      have n1_ := Aside0.mk (below_drew1 HB.out)
                      clear HO_7
                      clear HB
                      have HO_7 := n0_
                      have HB := n1_
                      clear n0_ n1_
                      have q64 : ((ji50) : Int) ≤ ((t531.length : Int) : Int) := of_decide_eq_true (by first | (with_reducible assumption) | assumption)
                      obtain ⟨i064, hi064, _, hsz64, _⟩ := info_parts info3
                      have hroom64 : t531.length ≤ co20 := (Kd.R_reads' HO_7.out).2.1
                      have hC64 : Kd.C (Kd.int .i64) _ Ao20 t531.length t531 := (Kd.R_reads' HO_7.out).2.2
                      have hcut64 := cut_to (P := Try.prog) 22 3 .i64 Try.underlying22 hi064 Ao20 t531.length co20 (ji50) (of_decide_eq_true (by first | (with_reducible assumption) | assumption)) q64 hroom64
                      have hr64 := Kd.C_take (m := ((ji50) : Int).toNat) hC64 (by omega)
                      have hy64 : y555.length = ((ji50) : Int).toNat := (by rw [Ny555.out, List.length_take]; omega)
                      rw [← Ny555.out] at hr64
                      rw [← hy64] at hcut64
                      have HR558 := Aside0.mk hr64
                      have HC558 := Aside0.mk (show y555.length ≤ co20 from by omega)
                      clear hr64 hC64 hroom64 hi064 hsz64
                      have KY64 := Aside0.mk hy64
                      clear hy64
                      have KL64 := Aside0.mk (show ((ji50) : Int).toNat ≤ t531.length from by omega)
                      replace q64 := eq_true q64
                      have q65 : ((ji54) : Int) ≤ ((t531.length : Int) : Int) := of_decide_eq_true (by first | (with_reducible assumption) | assumption)
                      obtain ⟨i065, hi065, _, hsz65, _⟩ := info_parts info3
                      have hroom65 : t531.length ≤ co20 := (Kd.R_reads' HO_7.out).2.1
                      have hC65 : Kd.C (Kd.int .i64) _ Ao20 t531.length t531 := (Kd.R_reads' HO_7.out).2.2
                      have q065 : (0 : Int) ≤ ((ji54) : Int) := of_decide_eq_true (by first | (with_reducible assumption) | assumption)
                      have hcut65 := cut_from (P := Try.prog) 22 3 .i64 Try.underlying22 hi065 1 hsz65 Ao20 t531.length co20 (ji54) q065 q65
                      have hr65 := Kd.C_drop (m := ((ji54) : Int).toNat) (c := co20) hC65 (by omega) hroom65
                      obtain ⟨A65, hA65⟩ : ∃ A1, A1 = (if co20 = ((ji54) : Int).toNat then Ao20 else (Ao20 : Option Addr).map (·.add (((ji54) : Int).toNat * 1))) := ⟨_, rfl⟩
                      obtain ⟨c65, hc65⟩ : ∃ c1, c1 = co20 - ((ji54) : Int).toNat := ⟨_, rfl⟩
                      have hy65 : y562.length = t531.length - ((ji54) : Int).toNat := (by rw [Ny562.out, List.length_drop] <;> omega)
                      rw [show (t531).drop ((ji54) : Int).toNat = y562 from Ny562.out.symm] at hr65
                      replace hr65 : Kd.C (Kd.int .i64) _ A65 y562.length y562 := (by rw [hA65]; exact hr65)
                      rw [← hy65, ← hA65, ← hc65] at hcut65
                      have HR565 := Aside0.mk hr65
                      have HC565 := Aside0.mk (show y562.length ≤ c65 from by rw [hy65, hc65]; exact Nat.sub_le_sub_right hroom65 _)
                      clear hr65 hC65 hroom65 hi065 hsz65 hc65
                      have KY65 := Aside0.mk hy65
                      have KA65 := Aside0.mk hA65
                      clear hy65 hA65
                      have KL65 := Aside0.mk (show ((ji54) : Int).toNat ≤ t531.length from by omega)
                      replace q65 := eq_true q65
                      refine start_ (n := 11) (S := fun w' => True) (ds := []) #[false, false, false, false, false, false, false, false, false, false, false] (by kernel_rfl) rfl rfl trivial (fun hHeld => ?_); refine with_tabW magnetolaw05_StuffTurned.tab18 magnetolaw05_StuffTurned.bits18 (fun HT_ HW_ => ?_)
                      generalize wc.drew = w63 at HO_7 HB HR558 HR565 hHeld ⊢
                      refine pure_ (i := 1) (N := some 130) (v := ?_) (a' := ?_) #[false, true, false, false, false, false, false, false, false, false, false] rfl rfl (any_of HT_.out (by kernel_rfl)) (fun _ _ _ h => h) (Or.inl ⟨by rfl, ?_⟩) ?_ ?_
                      rotate_left
                      ·
                       intro w'
                       go_simp
                       with_reducible rfl
                      rotate_left
                      ·
                       simp only [Act.put, List.setIfInBounds_toArray, List.set_cons_zero, List.set_cons_succ, i64_w, i32_w]
                       rfl
                      refine pure_ (i := 2) (N := some 131) (v := ?_) (a' := ?_) #[false, true, true, false, false, false, false, false, false, false, false] rfl rfl (any_of HT_.out (by kernel_rfl)) (fun _ _ _ h => h) (Or.inl ⟨by rfl, ?_⟩) ?_ ?_
                      rotate_left
                      ·
                       intro w'
                       go_simp
                       with_reducible rfl
                      rotate_left
                      ·
                       simp only [Act.put, List.setIfInBounds_toArray, List.set_cons_zero, List.set_cons_succ, i64_w, i32_w]
                       rfl
                      refine pure_ (i := 3) (N := some 132) (v := ?_) (a' := ?_) #[false, true, true, true, false, false, false, false, false, false, false] rfl rfl (any_of HT_.out (by kernel_rfl)) (fun _ _ _ h => h) (Or.inl ⟨by rfl, ?_⟩) ?_ ?_
                      rotate_left
                      ·
                       intro w'
                       go_simp
                       with_reducible rfl
                      rotate_left
                      ·
                       simp only [Act.put, List.setIfInBounds_toArray, List.set_cons_zero, List.set_cons_succ, i64_w, i32_w]
                       rfl
                      refine pure_ (i := 5) (N := some 134) (v := ?_) (a' := ?_) #[false, true, true, true, false, true, false, false, false, false, false] rfl rfl (any_of HT_.out (by kernel_rfl)) (fun _ _ _ h => h) (Or.inl ⟨by rfl, ?_⟩) ?_ ?_
                      rotate_left
                      ·
                       intro w'
                       go_simp
                       with_reducible rfl
                      rotate_left
                      ·
                       simp only [Act.put, List.setIfInBounds_toArray, List.set_cons_zero, List.set_cons_succ, i64_w, i32_w]
                       rfl
                      refine pure_ (i := 6) (N := some 135) (v := ?_) (a' := ?_) #[false, true, true, true, false, true, true, false, false, false, false] rfl rfl (any_of HT_.out (by kernel_rfl)) (fun _ _ _ h => h) (Or.inl ⟨by rfl, ?_⟩) ?_ ?_
                      rotate_left
                      ·
                       intro w'
                       go_simp
                       with_reducible rfl
                      rotate_left
                      ·
                       simp only [Act.put, List.setIfInBounds_toArray, List.set_cons_zero, List.set_cons_succ, i64_w, i32_w]
                       rfl
                      refine pure_ (i := 7) (N := some 136) (v := ?_) (a' := ?_) #[false, true, true, true, false, true, true, true, false, false, false] rfl rfl (any_of HT_.out (by kernel_rfl)) (fun _ _ _ h => h) (Or.inl ⟨by rfl, ?_⟩) ?_ ?_
                      rotate_left
                      ·
                       intro w'
                       go_simp
                       with_reducible rfl
                      rotate_left
                      ·
                       simp only [Act.put, List.setIfInBounds_toArray, List.set_cons_zero, List.set_cons_succ, i64_w, i32_w]
                       rfl
                      refine pure_ (i := 8) (N := some 137) (v := ?_) (a' := ?_) #[false, true, true, true, false, true, true, true, true, false, false] rfl rfl (any_of HT_.out (by kernel_rfl)) (fun _ _ _ h => h) (Or.inl ⟨by rfl, ?_⟩) ?_ ?_
                      rotate_left
                      ·
                       intro w'
                       go_simp
                       with_reducible rfl
                      rotate_left
                      ·
                       simp only [Act.put, List.setIfInBounds_toArray, List.set_cons_zero, List.set_cons_succ, i64_w, i32_w]
                       rfl
                      refine one_ (i := 0) (N := some 129) #[true, true, true, true, false, true, true, true, true, false, false] rfl rfl (one_of HT_.out (by kernel_rfl)) (by decide) (fun K hK => ?_)
                      refine Kd.R_lit_step (Kd.int .i64) _ 3 ?hg (N := 129) ?hd (xs := ([] : List Int)) (inner := []) (ok := fun _ => True) (okp := fun _ => True) ?hr ?hp (fun _ hk => hk) trivial (Below.refl _ _) (Nat.le_refl _) (by simp) ?_; (case hd => rfl); (case hg => rfl); (case hr => first | (go_simp; done) | (go_simp; rfl)); (case hp => exact (Reps.none _ _))
                      intro v553 w66 ho67 hb hg_ hnew_
                      clear hg_ hnew_
                      (first | rw [← Ny552.out] at ho67 | (simp only [Int.reduceToNat] at ho67; rw [← Ny552.out] at ho67))
                      have n0_ := Aside0.mk (Kd.R_elder' (by (with_reducible repeat (first | apply Kd.R_alloc | apply Kd.R_drewN | apply Kd.R_drew)); exact HO_7.out) (Kd.R_base ho67) hb)
                      have n1_ := Aside0.mk (Kd.R_lower (Kd.R_new' ho67 (Kd.R_lt (by (with_reducible repeat (first | apply Kd.R_alloc | apply Kd.R_drewN | apply Kd.R_drew)); exact HO_7.out))) (below_size (by repeat (first | (with_reducible first | exact HB.out | apply below_alloc | apply pw_below_drewN | apply below_drew1) | exact HB.out))))
                      have n2_ := Aside0.mk (Kd.C_below (by repeat (first | (with_reducible exact HR558.out) | (with_reducible refine Kd.C_alloc ?_ _) | (with_reducible refine Kd.C_drewN ?_ _) | (with_reducible refine Kd.C_drew ?_) | exact HR558.out)) hb)
                      have n3_ := Aside0.mk (Kd.C_below (by repeat (first | (with_reducible exact HR565.out) | (with_reducible refine Kd.C_alloc ?_ _) | (with_reducible refine Kd.C_drewN ?_ _) | (with_reducible refine Kd.C_drew ?_) | exact HR565.out)) hb)
                      have n4_ := Aside0.mk (below_step (by repeat (first | (with_reducible first | exact HB.out | apply below_alloc | apply pw_below_drewN | apply below_drew1) | exact HB.out)) hb)
                      clear HO_7
                      clear HR558
                      clear HR565
                      clear HB
                      have HO_7 := n0_
                      have HO554 := n1_
                      have HR558 := n2_
                      have HR565 := n3_
                      have HB := n4_
                      clear n0_ n1_ n2_ n3_ n4_
                      clear hb ho67
                      refine hK.out _ _ trivial (fun hHeld => ?_)
                      clear hK K
                      refine norm_ (a' := ?_) ?_ ?_
                      rotate_left
                      ·
                       show Act.put _ (some 129) _ = _
                       simp only [Act.put, List.setIfInBounds_toArray, List.set_cons_zero, List.set_cons_succ, i64_w, i32_w]
                       rfl
                      refine one_ (i := 4) (N := some 133) #[true, true, true, true, true, true, true, true, true, false, false] rfl rfl (one_of HT_.out (by kernel_rfl)) (by decide) (fun K hK => ?_)
                      refine Kd.R_append_rows_step (Kd.int .i64) (w0 := w) w.heap.size (by rfl) (.tmp 129) (.tmp 132) 22 3 (.int .i64 0) 8 rfl Try.underlying22 info3 rfl (by decide) (by omega) v553 y552 y555 _ _ _ (fun k_ => some k_ ≠ (.slice Ao20 t531.length co20 : Value).ownBlock) (fun _ => False) rfl rfl ?aO ?aR (fun _ _ h => h) (fun _ h => h.elim) ?aF ?aB ?aS ?aL ?_
                      (case aR => repeat (first | exact (by repeat (first | (with_reducible exact HR558.out) | (with_reducible refine Kd.C_alloc ?_ _) | (with_reducible refine Kd.C_drewN ?_ _) | (with_reducible refine Kd.C_drew ?_) | exact HR558.out)) | (with_reducible refine Kd.C_alloc ?_ _) | (with_reducible refine Kd.C_drewN ?_ _) | (with_reducible refine Kd.C_drew ?_)))
                      (case aB => exact (by repeat (first | (with_reducible first | exact HB.out | apply below_alloc | apply pw_below_drewN | apply below_drew1) | exact HB.out)))
                      (case aF => exact (fun k_ hk => Kd.fresh' (Kd.R_lt (by (with_reducible repeat (first | apply Kd.R_alloc | apply Kd.R_drewN | apply Kd.R_drew)); exact HO_7.out)) k_ hk))
                      (case aO => exact (by (with_reducible repeat (first | apply Kd.R_alloc | apply Kd.R_drewN | apply Kd.R_drew)); exact Kd.R_mono HO554.out (fun _ hk => hk.2)))
                      (case aS => exact (below_size (by repeat (first | (with_reducible first | exact HB.out | apply below_alloc | apply pw_below_drewN | apply below_drew1) | exact HB.out))))
                      (case aL => have := LMc53.out; omega)
                      intro v560 w68 ho hb hg hat
                      rw [← Ny559.out] at ho
                      have n0_ := Aside0.mk (Kd.R_after (ok := (fun _ => True)) (by (with_reducible repeat (first | apply Kd.R_alloc | apply Kd.R_drewN | apply Kd.R_drew)); exact HO_7.out) hg hat)
                      have n1_ := Aside0.mk (hb)
                      have n2_ := Aside0.mk ((show Kd.C (Kd.int .i64) w68 Ao20 y555.length y555 from by rw [Ny555.out]; exact Kd.C_take (m := ((ji50) : Int).toNat) ((Kd.R_reads' (Kd.R_after (ok := (fun _ => True)) (by (with_reducible repeat (first | apply Kd.R_alloc | apply Kd.R_drewN | apply Kd.R_drew)); exact HO_7.out) hg hat)).2.2) KL64.out))
                      have n3_ := Aside0.mk ((show Kd.C (Kd.int .i64) w68 A65 y562.length y562 from by rw [Ny562.out, KA65.out]; exact Kd.C_drop (m := ((ji54) : Int).toNat) (c := co20) ((Kd.R_reads' (Kd.R_after (ok := (fun _ => True)) (by (with_reducible repeat (first | apply Kd.R_alloc | apply Kd.R_drewN | apply Kd.R_drew)); exact HO_7.out) hg hat)).2.2) KL65.out ((Kd.R_reads' (Kd.R_after (ok := (fun _ => True)) (by (with_reducible repeat (first | apply Kd.R_alloc | apply Kd.R_drewN | apply Kd.R_drew)); exact HO_7.out) hg hat)).2.1)))
                      have n4_ := Aside0.mk (ho)
                      clear HO_7
                      clear HB
                      clear HR558
                      clear HR565
                      clear HO554
                      have HO_7 := n0_
                      have HB := n1_
                      have HR558 := n2_
                      have HR565 := n3_
                      have HO561 := n4_
                      clear n0_ n1_ n2_ n3_ n4_
                      clear ho hb hg hat
                      refine hK.out _ _ trivial (fun hHeld => ?_)
                      clear hK K
                      refine norm_ (a' := ?_) ?_ ?_
                      rotate_left
                      ·
                       show Act.put _ (some 133) _ = _
                       simp only [Act.put, List.setIfInBounds_toArray, List.set_cons_zero, List.set_cons_succ, i64_w, i32_w]
                       rfl
                      refine one_ (i := 9) (N := some 138) #[true, true, true, true, true, true, true, true, true, true, false] rfl rfl (one_of HT_.out (by kernel_rfl)) (by decide) (fun K hK => ?_)
                      refine Kd.R_append_rows_step (Kd.int .i64) (w0 := w) w.heap.size (by rfl) (.tmp 133) (.tmp 137) 22 3 (.int .i64 0) 8 rfl Try.underlying22 info3 rfl (by decide) (by omega) v560 y559 y562 _ _ _ (fun k_ => some k_ ≠ (.slice Ao20 t531.length co20 : Value).ownBlock) (fun _ => False) rfl rfl ?aO ?aR (fun _ _ h => h) (fun _ h => h.elim) ?aF ?aB ?aS ?aL ?_
                      (case aR => repeat (first | exact (by repeat (first | (with_reducible exact HR565.out) | (with_reducible refine Kd.C_alloc ?_ _) | (with_reducible refine Kd.C_drewN ?_ _) | (with_reducible refine Kd.C_drew ?_) | exact HR565.out)) | (with_reducible refine Kd.C_alloc ?_ _) | (with_reducible refine Kd.C_drewN ?_ _) | (with_reducible refine Kd.C_drew ?_)))
                      (case aB => exact (by repeat (first | (with_reducible first | exact HB.out | apply below_alloc | apply pw_below_drewN | apply below_drew1) | exact HB.out)))
                      (case aF => exact (fun k_ hk => Kd.fresh' (Kd.R_lt (by (with_reducible repeat (first | apply Kd.R_alloc | apply Kd.R_drewN | apply Kd.R_drew)); exact HO_7.out)) k_ hk))
                      (case aO => exact (by (with_reducible repeat (first | apply Kd.R_alloc | apply Kd.R_drewN | apply Kd.R_drew)); exact HO561.out))
                      (case aS => exact (below_size (by repeat (first | (with_reducible first | exact HB.out | apply below_alloc | apply pw_below_drewN | apply below_drew1) | exact HB.out))))
                      (case aL => have := LMc57.out; omega)
                      intro v567 w69 ho hb hg hat
                      rw [← Ny566.out] at ho
                      have n0_ := Aside0.mk (Kd.R_after (ok := (fun _ => True)) (by (with_reducible repeat (first | apply Kd.R_alloc | apply Kd.R_drewN | apply Kd.R_drew)); exact HO_7.out) hg hat)
                      have n1_ := Aside0.mk (hb)
                      have n2_ := Aside0.mk ((show Kd.C (Kd.int .i64) w69 Ao20 y555.length y555 from by rw [Ny555.out]; exact Kd.C_take (m := ((ji50) : Int).toNat) ((Kd.R_reads' (Kd.R_after (ok := (fun _ => True)) (by (with_reducible repeat (first | apply Kd.R_alloc | apply Kd.R_drewN | apply Kd.R_drew)); exact HO_7.out) hg hat)).2.2) KL64.out))
                      have n3_ := Aside0.mk ((show Kd.C (Kd.int .i64) w69 A65 y562.length y562 from by rw [Ny562.out, KA65.out]; exact Kd.C_drop (m := ((ji54) : Int).toNat) (c := co20) ((Kd.R_reads' (Kd.R_after (ok := (fun _ => True)) (by (with_reducible repeat (first | apply Kd.R_alloc | apply Kd.R_drewN | apply Kd.R_drew)); exact HO_7.out) hg hat)).2.2) KL65.out ((Kd.R_reads' (Kd.R_after (ok := (fun _ => True)) (by (with_reducible repeat (first | apply Kd.R_alloc | apply Kd.R_drewN | apply Kd.R_drew)); exact HO_7.out) hg hat)).2.1)))
                      have n4_ := Aside0.mk (ho)
                      clear HO_7
                      clear HB
                      clear HR558
                      clear HR565
                      clear HO561
                      have HO_7 := n0_
                      have HB := n1_
                      have HR558 := n2_
                      have HR565 := n3_
                      have HO568 := n4_
                      clear n0_ n1_ n2_ n3_ n4_
                      clear ho hb hg hat
                      refine hK.out _ _ trivial (fun hHeld => ?_)
                      clear hK K
                      refine norm_ (a' := ?_) ?_ ?_
                      rotate_left
                      ·
                       show Act.put _ (some 138) _ = _
                       simp only [Act.put, List.setIfInBounds_toArray, List.set_cons_zero, List.set_cons_succ, i64_w, i32_w]
                       rfl
                      refine pure_ (i := 10) (N := some 15) (v := ?_) (a' := ?_) #[true, true, true, true, true, true, true, true, true, true, true] rfl rfl (any_of HT_.out (by kernel_rfl)) (fun _ _ _ h => h) (Or.inl ⟨by rfl, ?_⟩) ?_ ?_
                      rotate_left
                      ·
                       intro w'
                       go_simp
                       with_reducible rfl
                      rotate_left
                      ·
                       simp only [Act.put, List.setIfInBounds_toArray, List.set_cons_zero, List.set_cons_succ, i64_w, i32_w]
                       rfl
                      refine done_ (done_of HT_.out (by kernel_rfl)) ?_
                      obtain ⟨Ao70, co70, eo70⟩ := Kd.R_slice HO568.out
                      subst eo70
                      try go_wp2_with (first | ((with_reducible refine gate_callee (f := 46) rfl ?_); refine goesL_ (some 141) rfl rfl Try.func46 (by kernel_rfl) rfl #[.slice Ao70 y566.length co70] rfl (by (try simp only [List.map_toArray, List.map_cons, List.map_nil]); first | done | rfl | (simp only [List.length_drop, List.length_take]; rfl)) ?_; (with_reducible refine (stuff_Take.calls kj34 _ _ y566 t569 t570 t571 _ ?side1 ?side2 A58.out).mono ?_); (case side1 => repeat (first | exact (Kd.R_reads' HO568.out).2.2 | (with_reducible refine Kd.C_alloc ?_ _) | (with_reducible refine Kd.C_drewN ?_ _) | (with_reducible refine Kd.C_drew ?_))); (case side2 => exact (Kd.R_reads' HO568.out).2.1); rintro e w71 ⟨v572, rfl, ho0, hb⟩; refine ⟨_, rfl, ?_⟩; have n0_ := Aside0.mk (Kd.R_elder' (by (with_reducible repeat (first | apply Kd.R_alloc | apply Kd.R_drewN | apply Kd.R_drew)); exact HO_7.out) (Kd.R_base ho0) hb); have n1_ := Aside0.mk (Kd.R_elder' (by (with_reducible repeat (first | apply Kd.R_alloc | apply Kd.R_drewN | apply Kd.R_drew)); exact HO568.out) (Kd.R_base ho0) hb); have n2_ := Aside0.mk (Kd.R_lower (Kd.R_new' (Kd.R_new' ho0 (Kd.R_lt (by (with_reducible repeat (first | apply Kd.R_alloc | apply Kd.R_drewN | apply Kd.R_drew)); exact HO_7.out))) (Kd.R_lt (by (with_reducible repeat (first | apply Kd.R_alloc | apply Kd.R_drewN | apply Kd.R_drew)); exact HO568.out))) (below_size (by repeat (first | (with_reducible first | exact HB.out | apply below_alloc | apply pw_below_drewN | apply below_drew1) | exact HB.out)))); have n3_ := Aside0.mk (Kd.C_below (by repeat (first | (with_reducible exact HR558.out) | (with_reducible refine Kd.C_alloc ?_ _) | (with_reducible refine Kd.C_drewN ?_ _) | (with_reducible refine Kd.C_drew ?_) | exact HR558.out)) hb); have n4_ := Aside0.mk (Kd.C_below (by repeat (first | (with_reducible exact HR565.out) | (with_reducible refine Kd.C_alloc ?_ _) | (with_reducible refine Kd.C_drewN ?_ _) | (with_reducible refine Kd.C_drew ?_) | exact HR565.out)) hb); have n5_ := Aside0.mk (below_step (by repeat (first | (with_reducible first | exact HB.out | apply below_alloc | apply pw_below_drewN | apply below_drew1) | exact HB.out)) hb); clear HO_7; clear HO568; clear HR558; clear HR565; clear HB; have HO_7 := n0_; have HO568 := n1_; have HO573 := n2_; have HR558 := n3_; have HR565 := n4_; have HB := n5_; clear n0_ n1_ n2_ n3_ n4_ n5_; (try clear hb); (try clear hb2); (try clear hk); (try clear hi); (try clear ho0); obtain ⟨Ao72, co72, eo72⟩ := Kd.R_slice HO573.out; subst eo72) | (go_at_call 42; (with_reducible refine (magnetolaw05_ints.calls kj34 _ _ t569 _ _ l0 false _ ?side1 ?side2 ?side3 ?side4 A60.out).mono ?_); (case side1 => repeat (first | exact (Kd.R_reads' HO573.out).2.2 | (with_reducible refine Kd.C_alloc ?_ _) | (with_reducible refine Kd.C_drewN ?_ _) | (with_reducible refine Kd.C_drew ?_))); (case side2 => exact (Kd.R_reads' HO573.out).2.1); (case side3 => repeat (first | exact (Kd.C_below HR0.out HB.out) | (with_reducible refine Kd.C_alloc ?_ _) | (with_reducible refine Kd.C_drewN ?_ _) | (with_reducible refine Kd.C_drew ?_))); (case side4 => exact HC0.out); rintro e w' ⟨rfl, ⟨nd, rfl⟩⟩) | (go_at_call 40; (with_reducible refine (magnetolaw05_awake.calls kj34  t575 _ A62.out).mono ?_); rintro e w73 ⟨rfl, hb⟩; have n0_ := Aside0.mk (Kd.R_below (by (with_reducible repeat (first | apply Kd.R_alloc | apply Kd.R_drewN | apply Kd.R_drew)); exact HO_7.out) hb); have n1_ := Aside0.mk (Kd.R_below (by (with_reducible repeat (first | apply Kd.R_alloc | apply Kd.R_drewN | apply Kd.R_drew)); exact HO568.out) hb); have n2_ := Aside0.mk (Kd.R_below (by (with_reducible repeat (first | apply Kd.R_alloc | apply Kd.R_drewN | apply Kd.R_drew)); exact HO573.out) hb); have n3_ := Aside0.mk (Kd.C_below (by repeat (first | (with_reducible exact HR558.out) | (with_reducible refine Kd.C_alloc ?_ _) | (with_reducible refine Kd.C_drewN ?_ _) | (with_reducible refine Kd.C_drew ?_) | exact HR558.out)) hb); have n4_ := Aside0.mk (Kd.C_below (by repeat (first | (with_reducible exact HR565.out) | (with_reducible refine Kd.C_alloc ?_ _) | (with_reducible refine Kd.C_drewN ?_ _) | (with_reducible refine Kd.C_drew ?_) | exact HR565.out)) hb); have n5_ := Aside0.mk (below_step (by repeat (first | (with_reducible first | exact HB.out | apply below_alloc | apply pw_below_drewN | apply below_drew1) | exact HB.out)) hb); clear HO_7; clear HO568; clear HO573; clear HR558; clear HR565; clear HB; have HO_7 := n0_; have HO568 := n1_; have HO573 := n2_; have HR558 := n3_; have HR565 := n4_; have HB := n5_; clear n0_ n1_ n2_ n3_ n4_ n5_; (try clear hb); (try clear hb2); (try clear hk); (try clear hi)))
                      go_ret
                      exact ⟨by first | rfl | (simp [errW_none, errW_some] <;> rfl) | (simp only [← hji50, ← hji54]; first | rfl | (simp [errW_none, errW_some] <;> rfl)) | (simp [*, errW_none, errW_some] <;> rfl), by repeat (first | (with_reducible first | exact HB.out | apply below_alloc | apply pw_below_drewN | apply below_drew1) | exact HB.out)⟩
                    ·
                     rw [if_neg c59] at H
                     have c59b0 : (t571 == 0) = false := beq_eq_false_iff_ne.mpr c59
                     have c59b1 : (t571 != 0) = true := bne_iff_ne.mpr c59
                     replace H := Option.bind_eq_some_iff.mp H
                     obtain ⟨t576, A740, H⟩ := H
                     replace H : (some t576) = some r := H
                     have A74 := Aside0.mk A740
                     clear A740
                     obtain rfl := Option.some.inj H
                     try go_wp2
                     have n0_ := Aside0.mk (Kd.R_drew HO_7.out)
                     have n1_ := Aside0.mk (below_drew1 HB.out)
                     clear HO_7
                     clear HB
                     have HO_7 := n0_
                     have HB := n1_
                     clear n0_ n1_
                     have q76 : ((ji50) : Int) ≤ ((t531.length : Int) : Int) := of_decide_eq_true (by first | (with_reducible assumption) | assumption)
                     obtain ⟨i076, hi076, _, hsz76, _⟩ := info_parts info3
                     have hroom76 : t531.length ≤ co20 := (Kd.R_reads' HO_7.out).2.1
                     have hC76 : Kd.C (Kd.int .i64) _ Ao20 t531.length t531 := (Kd.R_reads' HO_7.out).2.2
                     have hcut76 := cut_to (P := Try.prog) 22 3 .i64 Try.underlying22 hi076 Ao20 t531.length co20 (ji50) (of_decide_eq_true (by first | (with_reducible assumption) | assumption)) q76 hroom76
                     have hr76 := Kd.C_take (m := ((ji50) : Int).toNat) hC76 (by omega)
                     have hy76 : y555.length = ((ji50) : Int).toNat := (by rw [Ny555.out, List.length_take]; omega)
                     rw [← Ny555.out] at hr76
                     rw [← hy76] at hcut76
                     have HR558 := Aside0.mk hr76
                     have HC558 := Aside0.mk (show y555.length ≤ co20 from by omega)
                     clear hr76 hC76 hroom76 hi076 hsz76
                     have KY76 := Aside0.mk hy76
                     clear hy76
                     have KL76 := Aside0.mk (show ((ji50) : Int).toNat ≤ t531.length from by omega)
                     replace q76 := eq_true q76
                     have q77 : ((ji54) : Int) ≤ ((t531.length : Int) : Int) := of_decide_eq_true (by first | (with_reducible assumption) | assumption)
                     obtain ⟨i077, hi077, _, hsz77, _⟩ := info_parts info3
                     have hroom77 : t531.length ≤ co20 := (Kd.R_reads' HO_7.out).2.1
                     have hC77 : Kd.C (Kd.int .i64) _ Ao20 t531.length t531 := (Kd.R_reads' HO_7.out).2.2
                     have q077 : (0 : Int) ≤ ((ji54) : Int) := of_decide_eq_true (by first | (with_reducible assumption) | assumption)
                     have hcut77 := cut_from (P := Try.prog) 22 3 .i64 Try.underlying22 hi077 1 hsz77 Ao20 t531.length co20 (ji54) q077 q77
                     have hr77 := Kd.C_drop (m := ((ji54) : Int).toNat) (c := co20) hC77 (by omega) hroom77
                     obtain ⟨A77, hA77⟩ : ∃ A1, A1 = (if co20 = ((ji54) : Int).toNat then Ao20 else (Ao20 : Option Addr).map (·.add (((ji54) : Int).toNat * 1))) := ⟨_, rfl⟩
                     obtain ⟨c77, hc77⟩ : ∃ c1, c1 = co20 - ((ji54) : Int).toNat := ⟨_, rfl⟩
                     have hy77 : y562.length = t531.length - ((ji54) : Int).toNat := (by rw [Ny562.out, List.length_drop] <;> omega)
                     rw [show (t531).drop ((ji54) : Int).toNat = y562 from Ny562.out.symm] at hr77
                     replace hr77 : Kd.C (Kd.int .i64) _ A77 y562.length y562 := (by rw [hA77]; exact hr77)
                     rw [← hy77, ← hA77, ← hc77] at hcut77
                     have HR565 := Aside0.mk hr77
                     have HC565 := Aside0.mk (show y562.length ≤ c77 from by rw [hy77, hc77]; exact Nat.sub_le_sub_right hroom77 _)
                     clear hr77 hC77 hroom77 hi077 hsz77 hc77
                     have KY77 := Aside0.mk hy77
                     have KA77 := Aside0.mk hA77
                     clear hy77 hA77
                     have KL77 := Aside0.mk (show ((ji54) : Int).toNat ≤ t531.length from by omega)
                     replace q77 := eq_true q77
                     refine start_ (n := 11) (S := fun w' => True) (ds := []) #[false, false, false, false, false, false, false, false, false, false, false] (by kernel_rfl) rfl rfl trivial (fun hHeld => ?_); refine with_tabW magnetolaw05_StuffTurned.tab18 magnetolaw05_StuffTurned.bits18 (fun HT_ HW_ => ?_)
                     generalize wc.drew = w75 at HO_7 HB HR558 HR565 hHeld ⊢
                     refine pure_ (i := 1) (N := some 130) (v := ?_) (a' := ?_) #[false, true, false, false, false, false, false, false, false, false, false] rfl rfl (any_of HT_.out (by kernel_rfl)) (fun _ _ _ h => h) (Or.inl ⟨by rfl, ?_⟩) ?_ ?_
                     rotate_left
                     ·
                      intro w'
                      go_simp
                      with_reducible rfl
                     rotate_left
                     ·
                      simp only [Act.put, List.setIfInBounds_toArray, List.set_cons_zero, List.set_cons_succ, i64_w, i32_w]
                      rfl
                     refine pure_ (i := 2) (N := some 131) (v := ?_) (a' := ?_) #[false, true, true, false, false, false, false, false, false, false, false] rfl rfl (any_of HT_.out (by kernel_rfl)) (fun _ _ _ h => h) (Or.inl ⟨by rfl, ?_⟩) ?_ ?_
                     rotate_left
                     ·
                      intro w'
                      go_simp
                      with_reducible rfl
                     rotate_left
                     ·
                      simp only [Act.put, List.setIfInBounds_toArray, List.set_cons_zero, List.set_cons_succ, i64_w, i32_w]
                      rfl
                     refine pure_ (i := 3) (N := some 132) (v := ?_) (a' := ?_) #[false, true, true, true, false, false, false, false, false, false, false] rfl rfl (any_of HT_.out (by kernel_rfl)) (fun _ _ _ h => h) (Or.inl ⟨by rfl, ?_⟩) ?_ ?_
                     rotate_left
                     ·
                      intro w'
                      go_simp
                      with_reducible rfl
                     rotate_left
                     ·
                      simp only [Act.put, List.setIfInBounds_toArray, List.set_cons_zero, List.set_cons_succ, i64_w, i32_w]
                      rfl
                     refine pure_ (i := 5) (N := some 134) (v := ?_) (a' := ?_) #[false, true, true, true, false, true, false, false, false, false, false] rfl rfl (any_of HT_.out (by kernel_rfl)) (fun _ _ _ h => h) (Or.inl ⟨by rfl, ?_⟩) ?_ ?_
                     rotate_left
                     ·
                      intro w'
                      go_simp
                      with_reducible rfl
                     rotate_left
                     ·
                      simp only [Act.put, List.setIfInBounds_toArray, List.set_cons_zero, List.set_cons_succ, i64_w, i32_w]
                      rfl
                     refine pure_ (i := 6) (N := some 135) (v := ?_) (a' := ?_) #[false, true, true, true, false, true, true, false, false, false, false] rfl rfl (any_of HT_.out (by kernel_rfl)) (fun _ _ _ h => h) (Or.inl ⟨by rfl, ?_⟩) ?_ ?_
                     rotate_left
                     ·
                      intro w'
                      go_simp
                      with_reducible rfl
                     rotate_left
                     ·
                      simp only [Act.put, List.setIfInBounds_toArray, List.set_cons_zero, List.set_cons_succ, i64_w, i32_w]
                      rfl
                     refine pure_ (i := 7) (N := some 136) (v := ?_) (a' := ?_) #[false, true, true, true, false, true, true, true, false, false, false] rfl rfl (any_of HT_.out (by kernel_rfl)) (fun _ _ _ h => h) (Or.inl ⟨by rfl, ?_⟩) ?_ ?_
                     rotate_left
                     ·
                      intro w'
                      go_simp
                      with_reducible rfl
                     rotate_left
                     ·
                      simp only [Act.put, List.setIfInBounds_toArray, List.set_cons_zero, List.set_cons_succ, i64_w, i32_w]
                      rfl
                     refine pure_ (i := 8) (N := some 137) (v := ?_) (a' := ?_) #[false, true, true, true, false, true, true, true, true, false, false] rfl rfl (any_of HT_.out (by kernel_rfl)) (fun _ _ _ h => h) (Or.inl ⟨by rfl, ?_⟩) ?_ ?_
                     rotate_left
                     ·
                      intro w'
                      go_simp
                      with_reducible rfl
                     rotate_left
                     ·
                      simp only [Act.put, List.setIfInBounds_toArray, List.set_cons_zero, List.set_cons_succ, i64_w, i32_w]
                      rfl
                     refine one_ (i := 0) (N := some 129) #[true, true, true, true, false, true, true, true, true, false, false] rfl rfl (one_of HT_.out (by kernel_rfl)) (by decide) (fun K hK => ?_)
                     refine Kd.R_lit_step (Kd.int .i64) _ 3 ?hg (N := 129) ?hd (xs := ([] : List Int)) (inner := []) (ok := fun _ => True) (okp := fun _ => True) ?hr ?hp (fun _ hk => hk) trivial (Below.refl _ _) (Nat.le_refl _) (by simp) ?_; (case hd => rfl); (case hg => rfl); (case hr => first | (go_simp; done) | (go_simp; rfl)); (case hp => exact (Reps.none _ _))
                     intro v553 w78 ho79 hb hg_ hnew_
                     clear hg_ hnew_
                     (first | rw [← Ny552.out] at ho79 | (simp only [Int.reduceToNat] at ho79; rw [← Ny552.out] at ho79))
                     have n0_ := Aside0.mk (Kd.R_elder' (by (with_reducible repeat (first | apply Kd.R_alloc | apply Kd.R_drewN | apply Kd.R_drew)); exact HO_7.out) (Kd.R_base ho79) hb)
                     have n1_ := Aside0.mk (Kd.R_lower (Kd.R_new' ho79 (Kd.R_lt (by (with_reducible repeat (first | apply Kd.R_alloc | apply Kd.R_drewN | apply Kd.R_drew)); exact HO_7.out))) (below_size (by repeat (first | (with_reducible first | exact HB.out | apply below_alloc | apply pw_below_drewN | apply below_drew1) | exact HB.out))))
                     have n2_ := Aside0.mk (Kd.C_below (by repeat (first | (with_reducible exact HR558.out) | (with_reducible refine Kd.C_alloc ?_ _) | (with_reducible refine Kd.C_drewN ?_ _) | (with_reducible refine Kd.C_drew ?_) | exact HR558.out)) hb)
                     have n3_ := Aside0.mk (Kd.C_below (by repeat (first | (with_reducible exact HR565.out) | (with_reducible refine Kd.C_alloc ?_ _) | (with_reducible refine Kd.C_drewN ?_ _) | (with_reducible refine Kd.C_drew ?_) | exact HR565.out)) hb)
                     have n4_ := Aside0.mk (below_step (by repeat (first | (with_reducible first | exact HB.out | apply below_alloc | apply pw_below_drewN | apply below_drew1) | exact HB.out)) hb)
                     clear HO_7
                     clear HR558
                     clear HR565
                     clear HB
                     have HO_7 := n0_
                     have HO554 := n1_
                     have HR558 := n2_
                     have HR565 := n3_
                     have HB := n4_
                     clear n0_ n1_ n2_ n3_ n4_
                     clear hb ho79
                     refine hK.out _ _ trivial (fun hHeld => ?_)
                     clear hK K
                     refine norm_ (a' := ?_) ?_ ?_
                     rotate_left
                     ·
                      show Act.put _ (some 129) _ = _
                      simp only [Act.put, List.setIfInBounds_toArray, List.set_cons_zero, List.set_cons_succ, i64_w, i32_w]
                      rfl
                     refine one_ (i := 4) (N := some 133) #[true, true, true, true, true, true, true, true, true, false, false] rfl rfl (one_of HT_.out (by kernel_rfl)) (by decide) (fun K hK => ?_)
                     refine Kd.R_append_rows_step (Kd.int .i64) (w0 := w) w.heap.size (by rfl) (.tmp 129) (.tmp 132) 22 3 (.int .i64 0) 8 rfl Try.underlying22 info3 rfl (by decide) (by omega) v553 y552 y555 _ _ _ (fun k_ => some k_ ≠ (.slice Ao20 t531.length co20 : Value).ownBlock) (fun _ => False) rfl rfl ?aO ?aR (fun _ _ h => h) (fun _ h => h.elim) ?aF ?aB ?aS ?aL ?_
                     (case aR => repeat (first | exact (by repeat (first | (with_reducible exact HR558.out) | (with_reducible refine Kd.C_alloc ?_ _) | (with_reducible refine Kd.C_drewN ?_ _) | (with_reducible refine Kd.C_drew ?_) | exact HR558.out)) | (with_reducible refine Kd.C_alloc ?_ _) | (with_reducible refine Kd.C_drewN ?_ _) | (with_reducible refine Kd.C_drew ?_)))
                     (case aB => exact (by repeat (first | (with_reducible first | exact HB.out | apply below_alloc | apply pw_below_drewN | apply below_drew1) | exact HB.out)))
                     (case aF => exact (fun k_ hk => Kd.fresh' (Kd.R_lt (by (with_reducible repeat (first | apply Kd.R_alloc | apply Kd.R_drewN | apply Kd.R_drew)); exact HO_7.out)) k_ hk))
                     (case aO => exact (by (with_reducible repeat (first | apply Kd.R_alloc | apply Kd.R_drewN | apply Kd.R_drew)); exact Kd.R_mono HO554.out (fun _ hk => hk.2)))
                     (case aS => exact (below_size (by repeat (first | (with_reducible first | exact HB.out | apply below_alloc | apply pw_below_drewN | apply below_drew1) | exact HB.out))))
                     (case aL => have := LMc53.out; omega)
                     intro v560 w80 ho hb hg hat
                     rw [← Ny559.out] at ho
                     have n0_ := Aside0.mk (Kd.R_after (ok := (fun _ => True)) (by (with_reducible repeat (first | apply Kd.R_alloc | apply Kd.R_drewN | apply Kd.R_drew)); exact HO_7.out) hg hat)
                     have n1_ := Aside0.mk (hb)
                     have n2_ := Aside0.mk ((show Kd.C (Kd.int .i64) w80 Ao20 y555.length y555 from by rw [Ny555.out]; exact Kd.C_take (m := ((ji50) : Int).toNat) ((Kd.R_reads' (Kd.R_after (ok := (fun _ => True)) (by (with_reducible repeat (first | apply Kd.R_alloc | apply Kd.R_drewN | apply Kd.R_drew)); exact HO_7.out) hg hat)).2.2) KL76.out))
                     have n3_ := Aside0.mk ((show Kd.C (Kd.int .i64) w80 A77 y562.length y562 from by rw [Ny562.out, KA77.out]; exact Kd.C_drop (m := ((ji54) : Int).toNat) (c := co20) ((Kd.R_reads' (Kd.R_after (ok := (fun _ => True)) (by (with_reducible repeat (first | apply Kd.R_alloc | apply Kd.R_drewN | apply Kd.R_drew)); exact HO_7.out) hg hat)).2.2) KL77.out ((Kd.R_reads' (Kd.R_after (ok := (fun _ => True)) (by (with_reducible repeat (first | apply Kd.R_alloc | apply Kd.R_drewN | apply Kd.R_drew)); exact HO_7.out) hg hat)).2.1)))
                     have n4_ := Aside0.mk (ho)
                     clear HO_7
                     clear HB
                     clear HR558
                     clear HR565
                     clear HO554
                     have HO_7 := n0_
                     have HB := n1_
                     have HR558 := n2_
                     have HR565 := n3_
                     have HO561 := n4_
                     clear n0_ n1_ n2_ n3_ n4_
                     clear ho hb hg hat
                     refine hK.out _ _ trivial (fun hHeld => ?_)
                     clear hK K
                     refine norm_ (a' := ?_) ?_ ?_
                     rotate_left
                     ·
                      show Act.put _ (some 133) _ = _
                      simp only [Act.put, List.setIfInBounds_toArray, List.set_cons_zero, List.set_cons_succ, i64_w, i32_w]
                      rfl
                     refine one_ (i := 9) (N := some 138) #[true, true, true, true, true, true, true, true, true, true, false] rfl rfl (one_of HT_.out (by kernel_rfl)) (by decide) (fun K hK => ?_)
                     refine Kd.R_append_rows_step (Kd.int .i64) (w0 := w) w.heap.size (by rfl) (.tmp 133) (.tmp 137) 22 3 (.int .i64 0) 8 rfl Try.underlying22 info3 rfl (by decide) (by omega) v560 y559 y562 _ _ _ (fun k_ => some k_ ≠ (.slice Ao20 t531.length co20 : Value).ownBlock) (fun _ => False) rfl rfl ?aO ?aR (fun _ _ h => h) (fun _ h => h.elim) ?aF ?aB ?aS ?aL ?_
                     (case aR => repeat (first | exact (by repeat (first | (with_reducible exact HR565.out) | (with_reducible refine Kd.C_alloc ?_ _) | (with_reducible refine Kd.C_drewN ?_ _) | (with_reducible refine Kd.C_drew ?_) | exact HR565.out)) | (with_reducible refine Kd.C_alloc ?_ _) | (with_reducible refine Kd.C_drewN ?_ _) | (with_reducible refine Kd.C_drew ?_)))
                     (case aB => exact (by repeat (first | (with_reducible first | exact HB.out | apply below_alloc | apply pw_below_drewN | apply below_drew1) | exact HB.out)))
                     (case aF => exact (fun k_ hk => Kd.fresh' (Kd.R_lt (by (with_reducible repeat (first | apply Kd.R_alloc | apply Kd.R_drewN | apply Kd.R_drew)); exact HO_7.out)) k_ hk))
                     (case aO => exact (by (with_reducible repeat (first | apply Kd.R_alloc | apply Kd.R_drewN | apply Kd.R_drew)); exact HO561.out))
                     (case aS => exact (below_size (by repeat (first | (with_reducible first | exact HB.out | apply below_alloc | apply pw_below_drewN | apply below_drew1) | exact HB.out))))
                     (case aL => have := LMc57.out; omega)
                     intro v567 w81 ho hb hg hat
                     rw [← Ny566.out] at ho
                     have n0_ := Aside0.mk (Kd.R_after (ok := (fun _ => True)) (by (with_reducible repeat (first | apply Kd.R_alloc | apply Kd.R_drewN | apply Kd.R_drew)); exact HO_7.out) hg hat)
                     have n1_ := Aside0.mk (hb)
                     have n2_ := Aside0.mk ((show Kd.C (Kd.int .i64) w81 Ao20 y555.length y555 from by rw [Ny555.out]; exact Kd.C_take (m := ((ji50) : Int).toNat) ((Kd.R_reads' (Kd.R_after (ok := (fun _ => True)) (by (with_reducible repeat (first | apply Kd.R_alloc | apply Kd.R_drewN | apply Kd.R_drew)); exact HO_7.out) hg hat)).2.2) KL76.out))
                     have n3_ := Aside0.mk ((show Kd.C (Kd.int .i64) w81 A77 y562.length y562 from by rw [Ny562.out, KA77.out]; exact Kd.C_drop (m := ((ji54) : Int).toNat) (c := co20) ((Kd.R_reads' (Kd.R_after (ok := (fun _ => True)) (by (with_reducible repeat (first | apply Kd.R_alloc | apply Kd.R_drewN | apply Kd.R_drew)); exact HO_7.out) hg hat)).2.2) KL77.out ((Kd.R_reads' (Kd.R_after (ok := (fun _ => True)) (by (with_reducible repeat (first | apply Kd.R_alloc | apply Kd.R_drewN | apply Kd.R_drew)); exact HO_7.out) hg hat)).2.1)))
                     have n4_ := Aside0.mk (ho)
                     clear HO_7
                     clear HB
                     clear HR558
                     clear HR565
                     clear HO561
                     have HO_7 := n0_
                     have HB := n1_
                     have HR558 := n2_
                     have HR565 := n3_
                     have HO568 := n4_
                     clear n0_ n1_ n2_ n3_ n4_
                     clear ho hb hg hat
                     refine hK.out _ _ trivial (fun hHeld => ?_)
                     clear hK K
                     refine norm_ (a' := ?_) ?_ ?_
                     rotate_left
                     ·
                      show Act.put _ (some 138) _ = _
                      simp only [Act.put, List.setIfInBounds_toArray, List.set_cons_zero, List.set_cons_succ, i64_w, i32_w]
                      rfl
                     refine pure_ (i := 10) (N := some 15) (v := ?_) (a' := ?_) #[true, true, true, true, true, true, true, true, true, true, true] rfl rfl (any_of HT_.out (by kernel_rfl)) (fun _ _ _ h => h) (Or.inl ⟨by rfl, ?_⟩) ?_ ?_
                     rotate_left
                     ·
                      intro w'
                      go_simp
                      with_reducible rfl
                     rotate_left
                     ·
                      simp only [Act.put, List.setIfInBounds_toArray, List.set_cons_zero, List.set_cons_succ, i64_w, i32_w]
                      rfl
                     refine done_ (done_of HT_.out (by kernel_rfl)) ?_
                     obtain ⟨Ao82, co82, eo82⟩ := Kd.R_slice HO568.out
                     subst eo82
                     try go_wp2_with (first | ((with_reducible refine gate_callee (f := 46) rfl ?_); refine goesL_ (some 141) rfl rfl Try.func46 (by kernel_rfl) rfl #[.slice Ao82 y566.length co82] rfl (by (try simp only [List.map_toArray, List.map_cons, List.map_nil]); first | done | rfl | (simp only [List.length_drop, List.length_take]; rfl)) ?_; (with_reducible refine (stuff_Take.calls kj34 _ _ y566 t569 t570 t571 _ ?side1 ?side2 A58.out).mono ?_); (case side1 => repeat (first | exact (Kd.R_reads' HO568.out).2.2 | (with_reducible refine Kd.C_alloc ?_ _) | (with_reducible refine Kd.C_drewN ?_ _) | (with_reducible refine Kd.C_drew ?_))); (case side2 => exact (Kd.R_reads' HO568.out).2.1); rintro e w83 ⟨v572, rfl, ho0, hb⟩; refine ⟨_, rfl, ?_⟩; have n0_ := Aside0.mk (Kd.R_elder' (by (with_reducible repeat (first | apply Kd.R_alloc | apply Kd.R_drewN | apply Kd.R_drew)); exact HO_7.out) (Kd.R_base ho0) hb); have n1_ := Aside0.mk (Kd.R_elder' (by (with_reducible repeat (first | apply Kd.R_alloc | apply Kd.R_drewN | apply Kd.R_drew)); exact HO568.out) (Kd.R_base ho0) hb); have n2_ := Aside0.mk (Kd.R_lower (Kd.R_new' (Kd.R_new' ho0 (Kd.R_lt (by (with_reducible repeat (first | apply Kd.R_alloc | apply Kd.R_drewN | apply Kd.R_drew)); exact HO_7.out))) (Kd.R_lt (by (with_reducible repeat (first | apply Kd.R_alloc | apply Kd.R_drewN | apply Kd.R_drew)); exact HO568.out))) (below_size (by repeat (first | (with_reducible first | exact HB.out | apply below_alloc | apply pw_below_drewN | apply below_drew1) | exact HB.out)))); have n3_ := Aside0.mk (Kd.C_below (by repeat (first | (with_reducible exact HR558.out) | (with_reducible refine Kd.C_alloc ?_ _) | (with_reducible refine Kd.C_drewN ?_ _) | (with_reducible refine Kd.C_drew ?_) | exact HR558.out)) hb); have n4_ := Aside0.mk (Kd.C_below (by repeat (first | (with_reducible exact HR565.out) | (with_reducible refine Kd.C_alloc ?_ _) | (with_reducible refine Kd.C_drewN ?_ _) | (with_reducible refine Kd.C_drew ?_) | exact HR565.out)) hb); have n5_ := Aside0.mk (below_step (by repeat (first | (with_reducible first | exact HB.out | apply below_alloc | apply pw_below_drewN | apply below_drew1) | exact HB.out)) hb); clear HO_7; clear HO568; clear HR558; clear HR565; clear HB; have HO_7 := n0_; have HO568 := n1_; have HO573 := n2_; have HR558 := n3_; have HR565 := n4_; have HB := n5_; clear n0_ n1_ n2_ n3_ n4_ n5_; (try clear hb); (try clear hb2); (try clear hk); (try clear hi); (try clear ho0)) | (go_at_call 40; (with_reducible refine (magnetolaw05_awake.calls kj34  t576 _ A74.out).mono ?_); rintro e w84 ⟨rfl, hb⟩; have n0_ := Aside0.mk (Kd.R_below (by (with_reducible repeat (first | apply Kd.R_alloc | apply Kd.R_drewN | apply Kd.R_drew)); exact HO_7.out) hb); have n1_ := Aside0.mk (Kd.R_below (by (with_reducible repeat (first | apply Kd.R_alloc | apply Kd.R_drewN | apply Kd.R_drew)); exact HO568.out) hb); have n2_ := Aside0.mk (Kd.R_below (by (with_reducible repeat (first | apply Kd.R_alloc | apply Kd.R_drewN | apply Kd.R_drew)); exact HO573.out) hb); have n3_ := Aside0.mk (Kd.C_below (by repeat (first | (with_reducible exact HR558.out) | (with_reducible refine Kd.C_alloc ?_ _) | (with_reducible refine Kd.C_drewN ?_ _) | (with_reducible refine Kd.C_drew ?_) | exact HR558.out)) hb); have n4_ := Aside0.mk (Kd.C_below (by repeat (first | (with_reducible exact HR565.out) | (with_reducible refine Kd.C_alloc ?_ _) | (with_reducible refine Kd.C_drewN ?_ _) | (with_reducible refine Kd.C_drew ?_) | exact HR565.out)) hb); have n5_ := Aside0.mk (below_step (by repeat (first | (with_reducible first | exact HB.out | apply below_alloc | apply pw_below_drewN | apply below_drew1) | exact HB.out)) hb); clear HO_7; clear HO568; clear HO573; clear HR558; clear HR565; clear HB; have HO_7 := n0_; have HO568 := n1_; have HO573 := n2_; have HR558 := n3_; have HR565 := n4_; have HB := n5_; clear n0_ n1_ n2_ n3_ n4_ n5_; (try clear hb); (try clear hb2); (try clear hk); (try clear hi)))
                     go_ret
                     exact ⟨by first | rfl | (simp [errW_none, errW_some] <;> rfl) | (simp only [← hji50, ← hji54]; first | rfl | (simp [errW_none, errW_some] <;> rfl)) | (simp [*, errW_none, errW_some] <;> rfl), by repeat (first | (with_reducible first | exact HB.out | apply below_alloc | apply pw_below_drewN | apply below_drew1) | exact HB.out)⟩
                   ·
                    rw [if_neg c57] at H
                    exact absurd H (by simp)
                  ·
                   rw [if_neg c56] at H
                   exact absurd H (by simp)
                 ·
                  rw [if_neg c55] at H
                  exact absurd H (by simp)
                ·
                 rw [if_neg c53] at H
                 exact absurd H (by simp)
               ·
                rw [if_neg c52] at H
                exact absurd H (by simp)
              ·
               rw [if_neg c51] at H
               exact absurd H (by simp)
      ·
       rw [if_neg c18] at H
       exact absurd H (by simp)

/-- THE ONE PURE STATEMENT of magnetolaw05_StuffTurned: yours. -/
def magnetolaw05_StuffTurned.Pure : Prop := ∀ (l0 : List Int) (l1 : List Int) (a2 : Int), l0.length ≤ maxLen → l0.length * 8 ≤ 140737488351232 → (∀ x ∈ l0, (Lit.int .i64 x).wf = true) → l1.length ≤ maxLen → l1.length * 8 ≤ 140737488351232 → (∀ x ∈ l1, (Lit.int .i64 x).wf = true) → (Lit.int .i64 a2).wf = true → ∃ k, magnetolaw05_StuffTurned.f k l0 l1 a2 = some true
theorem magnetolaw05_StuffTurned.walk (P : magnetolaw05_StuffTurned.Pure) (a0 : Option Addr) (len0 cap0 : Nat) (z0 : List Int) (a1 : Option Addr) (len1 cap1 : Nat) (z1 : List Int) (a2 : Int) (w : World) (w0 : (a0 = none ∧ len0 = 0 ∧ cap0 = 0 ∧ z0 = []) ∨ ∃ x, a0 = some x ∧ len0 ≤ cap0 ∧ cap0 ≤ maxLen ∧ z0.length = cap0 ∧ (∀ i, i < z0.length → w.cell? (x.add i) = some (.int .i64 (z0.getD i 0))) ∧ ∀ n ∈ z0, (Lit.int .i64 n).wf = true) (y0 : len0 * 8 ≤ 140737488351232) (w1 : (a1 = none ∧ len1 = 0 ∧ cap1 = 0 ∧ z1 = []) ∨ ∃ x, a1 = some x ∧ len1 ≤ cap1 ∧ cap1 ≤ maxLen ∧ z1.length = cap1 ∧ (∀ i, i < z1.length → w.cell? (x.add i) = some (.int .i64 (z1.getD i 0))) ∧ ∀ n ∈ z1, (Lit.int .i64 n).wf = true) (y1 : len1 * 8 ≤ 140737488351232) (w2 : (Lit.int .i64 a2).wf = true) :
  Calls Try.prog 11 #[.slice a0 len0 cap0, .slice a1 len1 cap1, .int .i64 a2] w fun e w' => e = .returned (.bool true) ∧ Below w.heap.size w w' := by
 obtain ⟨l0, rfl, hr0, hm0, hw0, hc0⟩ := ReadsInt.ofRowC w0
 obtain ⟨l1, rfl, hr1, hm1, hw1, hc1⟩ := ReadsInt.ofRowC w1
 obtain ⟨k, h⟩ := P l0 l1 a2 hm0 y0 hw0 hm1 y1 hw1 w2
 refine (magnetolaw05_StuffTurned.calls k _ _ l0 _ _ l1 a2 true w (Kd.C_of_reads (d := (0 : Int)) (h1 := fun _ => rfl) hr0) hc0 (Kd.C_of_reads (d := (0 : Int)) (h1 := fun _ => rfl) hr1) hc1 h).mono ?_
 rintro e w' ⟨rfl, hd⟩
 exact ⟨rfl, hd⟩

end Go.Proofs.Ytipflkbpjnacnaa.PA
